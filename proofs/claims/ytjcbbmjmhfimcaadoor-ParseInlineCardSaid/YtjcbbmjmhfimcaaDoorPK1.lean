/- The number of a first line, and an argument, as the parser's reader takes them off. Conditions: that the text has at most a hundred thousand bytes. -/
import Derived.Test.YtjcbbmjmhfimcaaDoorPK0
namespace Go.Proofs.YtjcbbmjmhfimcaaDoor.P
open Go.RowKit Go.Lib Go.Proofs.YtjcbbmjmhfimcaaDoorW.PrintWords Go.Proofs.YtjcbbmjmhfimcaaDoorW.PrintLast Go.Proofs.YtjcbbmjmhfimcaaDoorW.PrintMore
attribute [local go_sem] Oper.semAt_some

def crlf : ByteArray := ⟨#[13, 10]⟩
/-- The number of a text, and what is wrong with it. -/
def numOf (s : ByteArray) : Int × Int := if 0 < s.size ∧ bt s 0 = 45 then parseOf true (s.extract 1 s.size) else parseOf false s
theorem num_calls (s : ByteArray) (hs : s.size ≤ 100000) (w : World) :
    Calls Tryd.prog 75 #[.string s] w fun e w' => e = .returned (.tuple #[.int .i64 (numOf s).1, .int .i64 (numOf s).2]) ∧ Below w.heap.size w w' := ints_parse_calls s hs w
theorem numOf_bd (s : ByteArray) : -9223372036854775808 ≤ (numOf s).1 ∧ (numOf s).1 ≤ 9223372036854775807 := by
  have key : ∀ b rest, -9223372036854775808 ≤ (parseOf b rest).1 ∧ (parseOf b rest).1 ≤ 9223372036854775807 := by
    intro b rest
    unfold parseOf
    split
    · rename_i hd
      have h0 : 0 ≤ digN rest rest.size := digN_nonneg rest hd
      split
      · split
        · simp only; omega
        · simp only; omega
      · split
        · simp only; omega
        · simp only; omega
    · simp only; omega
  unfold numOf
  split <;> exact key _ _
/-- The number of a first line, what is wrong, what is left. -/
def headB (s : ByteArray) (lo hi : Int) : Int × Int × ByteArray :=
  if indexB s crlf = -1 then (0, if 32 < s.size then 40 else 31, s)
  else if (numOf (s.extract 1 (indexB s crlf).toNat)).2 ≠ 0 ∨ hi < (numOf (s.extract 1 (indexB s crlf).toNat)).1 ∨ (numOf (s.extract 1 (indexB s crlf).toNat)).1 < lo then (0, 40, s)
  else (max (numOf (s.extract 1 (indexB s crlf).toNat)).1 (-1), 0, s.extract ((indexB s crlf).toNat + 2) s.size)
set_option maxHeartbeats 4000000 in
theorem head_calls (R : Nat) (s : ByteArray) (hs : s.size ≤ 100000) (lo hi : Int) (w : World) (hG : G w) (hR : Blk w R 50 #[.string s]) (hi0 : indexB s crlf ≠ 0) :
    Calls Tryd.prog 71 #[.pointer (some ⟨R, 0, none⟩), .int .i64 lo, .int .i64 hi] w fun e w' =>
      e = .returned (.tuple #[.int .i64 (headB s lo hi).1, erV (headB s lo hi).2.1]) ∧ Blk w' R 50 #[.string (headB s lo hi).2.2] ∧ w.grownBy w' (some R) := by
  have hc : w.cell? ⟨R, 0, none⟩ = some (.string s) := hR.cell 0
  have HG := Aside0.mk hG
  have HR := Aside0.mk hR
  clear hG hR
  rcases indexB_cases s crlf with hm | ⟨i, hi1, hi2⟩
  · have hH : headB s lo hi = (0, if 32 < s.size then 40 else 31, s) := by unfold headB; rw [if_pos hm]
    have HH := Aside0.mk hH
    have HM := Aside0.mk hm
    clear hH hm hi0
    go_enter Tryd.func71, Tryd.ntmps71
    go_wp2_with fail
    refine (cut_miss s crlf hs HM.out w HG.out).mono ?_
    rintro e w1 ⟨rfl, hb⟩
    have hc1 : w1.cell? ⟨R, 0, none⟩ = some (.string s) := (hb.cell (p := ⟨R, 0, none⟩) HR.out.lt).trans hc
    have HB := Aside0.mk hb
    clear hb hc
    by_cases h32 : (32 : Int) < (s.size : Int)
    · go_wp2
      go_ret2
      rw [HH.out, if_pos (by omega)]
      exact ⟨rfl, HR.out.below HB.out, grown_below HB.out _⟩
    · go_wp2
      go_ret2
      rw [HH.out, if_neg (by omega)]
      exact ⟨rfl, HR.out.below HB.out, grown_below HB.out _⟩
  · have h2 : crlf.size = 2 := rfl
    have hip : 0 < i := by omega
    have hH : headB s lo hi = if (numOf (s.extract 1 i)).2 ≠ 0 ∨ hi < (numOf (s.extract 1 i)).1 ∨ (numOf (s.extract 1 i)).1 < lo then (0, 40, s) else (max (numOf (s.extract 1 i)).1 (-1), 0, s.extract (i + 2) s.size) := by
      unfold headB
      rw [if_neg (by omega), hi1]
      rfl
    have hsz : (s.extract 0 i).size = i := by rw [ByteArray.size_extract]; omega
    have hex : (s.extract 0 i).extract 1 i = s.extract 1 i := by
      rw [ByteArray.extract_extract]
      congr 1 <;> omega
    have HH := Aside0.mk hH
    have HM := Aside0.mk hi1
    clear hH hi1 hi0
    rw [h2] at hi2
    clear h2
    go_enter Tryd.func71, Tryd.ntmps71
    go_wp2_with fail
    refine (cut_hit s crlf hs i HM.out w HG.out).mono ?_
    rintro e w1 ⟨rfl, hb⟩
    have HB := Aside0.mk hb
    have hnum := num_calls (s.extract 1 i) (by rw [ByteArray.size_extract]; omega)
    clear hb hc
    rw [show crlf.size = 2 from rfl]
    go_wp2_with fail
    refine (hnum w1).mono ?_
    have hbd := numOf_bd (s.extract 1 i)
    clear hnum
    generalize numOf (s.extract 1 i) = p at HH hbd ⊢
    obtain ⟨n, f⟩ := p
    simp only at HH hbd ⊢
    rintro e w2 ⟨rfl, hb2⟩
    have HB2 := Aside0.mk (HB.out.trans (hb2.mono HB.out.size))
    have hR2 := HR.out.below HB2.out
    have hc2 : w2.cell? ⟨R, 0, none⟩ = some (.string s) := hR2.cell 0
    have hf2 := hR2.frozen 0
    have HR2 := Aside0.mk hR2
    have hbd1 := hbd.1
    have hbd2 := hbd.2
    clear hb2 hR2 hbd HB
    by_cases hf : f = 0
    · subst hf
      by_cases h1 : hi < n
      · go_wp2
        go_ret2
        rw [HH.out, if_pos (.inr (.inl h1))]
        exact ⟨rfl, HR2.out, grown_below HB2.out _⟩
      · by_cases h2 : n < lo
        · go_wp2
          go_ret2
          rw [HH.out, if_pos (.inr (.inr h2))]
          exact ⟨rfl, HR2.out, grown_below HB2.out _⟩
        · go_wp2
          go_ret2
          rw [HH.out, if_neg (by simp; omega)]
          exact ⟨rfl, HR2.out.set 0 _, grown_set (grown_below HB2.out _) _ _⟩
    · have hfb : (f != 0) = true := by simpa using hf
      go_wp2
      go_ret2
      rw [HH.out, if_pos (.inl hf)]
      exact ⟨rfl, HR2.out, grown_below HB2.out _⟩
theorem idx_pos {s : ByteArray} (h0 : 0 < s.size) (h : bt s 0 ≠ 13) : indexB s crlf ≠ 0 := by
  intro e
  rcases index_spec s.data.toList crlf.data.toList with ⟨h1, _⟩ | ⟨i, h1, h2, h3, _⟩
  · rw [show indexB s crlf = index s.data.toList crlf.data.toList from rfl, h1] at e
    cases e
  · rw [show indexB s crlf = index s.data.toList crlf.data.toList from rfl, h1] at e
    obtain rfl : i = 0 := by omega
    have := occAt_head (c := 13) (t := [10]) rfl h3
    apply h
    have hlt : 0 < s.data.toList.length := by rw [← size_eq]; exact h0
    rw [List.getElem?_eq_getElem hlt] at this
    have h5 : s.data.toList[0] = 13 := Option.some.inj this
    unfold bt
    rw [dif_pos (show (0 : Int).toNat < s.size from h0)]
    have h6 : s[(0 : Int).toNat]'h0 = s.data.toList[0] := rfl
    rw [h6, h5]
    rfl
/-- An argument, what is wrong, what is left. -/
def bulkB (s : ByteArray) : ByteArray × Int × ByteArray :=
  if s.size = 0 then (⟨#[]⟩, 31, s)
  else if bt s 0 ≠ 36 then (⟨#[]⟩, 40, s)
  else if (headB s 0 512).2.1 ≠ 0 then (⟨#[]⟩, (headB s 0 512).2.1, (headB s 0 512).2.2)
  else if (headB s 0 512).2.2.size < (headB s 0 512).1.toNat + 2 then (⟨#[]⟩, 31, (headB s 0 512).2.2)
  else if (headB s 0 512).2.2.extract (headB s 0 512).1.toNat ((headB s 0 512).1.toNat + 2) ≠ crlf then (⟨#[]⟩, 40, (headB s 0 512).2.2)
  else ((headB s 0 512).2.2.extract 0 (headB s 0 512).1.toNat, 0, (headB s 0 512).2.2.extract ((headB s 0 512).1.toNat + 2) (headB s 0 512).2.2.size)
theorem headB_size (s : ByteArray) (lo hi : Int) : (headB s lo hi).2.2.size ≤ s.size := by
  unfold headB
  split
  · exact Nat.le_refl _
  · split
    · exact Nat.le_refl _
    · simp only [ByteArray.size_extract]; omega
theorem headB_bd (s : ByteArray) (lo hi : Int) (h : (headB s lo hi).2.1 = 0) (hl : -1 ≤ lo) : lo ≤ (headB s lo hi).1 ∧ (headB s lo hi).1 ≤ hi := by
  unfold headB at h ⊢
  split at h
  · simp only at h; split at h <;> omega
  · rename_i h1
    rw [if_neg h1]
    split at h
    · simp only at h; omega
    · rename_i h2
      rw [if_neg h2]
      simp only
      simp only [not_or, Int.not_lt] at h2
      omega
theorem eq_crlf (x : ByteArray) : ((x.toList == [13, 10]) = false ∧ x ≠ crlf) ∨ ((x.toList == [13, 10]) = true ∧ x = crlf) := by
  cases h : (x.toList == [13, 10]) with
  | false =>
    refine .inl ⟨rfl, fun e => ?_⟩
    rw [e, ByteArray.toList_eq] at h
    cases h
  | true =>
    refine .inr ⟨rfl, ?_⟩
    rw [ByteArray.toList_eq] at h
    have h := eq_of_beq h
    rw [← mk_data x, h]
    rfl
theorem erV_ne {e : Int} (h : e ≠ 0) : erV e = .iface 69 (.agg #[.int .i64 e]) := by unfold erV; rw [if_neg h]
theorem erV_zero : erV 0 = .nilIface := rfl
set_option maxHeartbeats 4000000 in
theorem bulk_calls (R : Nat) (s : ByteArray) (hs : s.size ≤ 100000) (w : World) (hG : G w) (hR : Blk w R 50 #[.string s]) :
    Calls Tryd.prog 73 #[.pointer (some ⟨R, 0, none⟩)] w fun e w' =>
      e = .returned (.tuple #[.string (bulkB s).1, erV (bulkB s).2.1]) ∧ Blk w' R 50 #[.string (bulkB s).2.2] ∧ w.grownBy w' (some R) := by
  have hc : w.cell? ⟨R, 0, none⟩ = some (.string s) := hR.cell 0
  have HG := Aside0.mk hG
  have HR := Aside0.mk hR
  clear hG hR
  by_cases h0 : s.size = 0
  · have hH : bulkB s = (⟨#[]⟩, 31, s) := by unfold bulkB; rw [if_pos h0]
    obtain rfl : s = ⟨#[]⟩ := by
      obtain ⟨⟨l⟩⟩ := s
      cases l with
      | nil => rfl
      | cons x t => cases h0
    have HH := Aside0.mk hH
    clear hH
    go_enter Tryd.func73, Tryd.ntmps73
    go_wp2
    go_ret2
    rw [HH.out]
    exact ⟨rfl, HR.out, grown_refl _ _⟩
  · have hne : s.toList.isEmpty = false := by
      rw [ByteArray.toList_eq]
      cases hd : s.data.toList with
      | nil => exact absurd (by rw [size_eq, hd]; rfl) h0
      | cons x t => rfl
    have hne2 : s.toList ≠ [] := by
      intro e
      rw [e] at hne
      cases hne
    have h0z : (0 : Int) < (s.size : Int) := by omega
    have hbt : ∀ h, ((s[0]'h).toNat : Int) = bt s 0 := fun h => bt_at s 0 h
    by_cases h36 : bt s 0 = 36
    · have hpos := idx_pos (s := s) (by omega) (by omega)
      have hH : bulkB s = if (headB s 0 512).2.1 ≠ 0 then (⟨#[]⟩, (headB s 0 512).2.1, (headB s 0 512).2.2) else if (headB s 0 512).2.2.size < (headB s 0 512).1.toNat + 2 then (⟨#[]⟩, 31, (headB s 0 512).2.2) else if (headB s 0 512).2.2.extract (headB s 0 512).1.toNat ((headB s 0 512).1.toNat + 2) ≠ crlf then (⟨#[]⟩, 40, (headB s 0 512).2.2) else ((headB s 0 512).2.2.extract 0 (headB s 0 512).1.toNat, 0, (headB s 0 512).2.2.extract ((headB s 0 512).1.toNat + 2) (headB s 0 512).2.2.size) := by
        unfold bulkB
        rw [if_neg h0, if_neg (by omega)]
      have hcall := head_calls R s hs 0 512 w HG.out HR.out hpos
      have hbd := headB_bd s 0 512
      have hsz := headB_size s 0 512
      generalize headB s 0 512 = p at hH hcall hbd hsz
      obtain ⟨n, f, r⟩ := p
      simp only at hH hcall hbd hsz
      have HH := Aside0.mk hH
      have h36b : (bt s 0 != 36) = false := by simp [h36]
      clear hH hpos
      go_enter Tryd.func73, Tryd.ntmps73
      go_wp2_with fail
      refine hcall.mono ?_
      rintro e w1 ⟨rfl, hR1, hg1⟩
      have hc1 : w1.cell? ⟨R, 0, none⟩ = some (.string r) := hR1.cell 0
      have hf1 := hR1.frozen 0
      have HR1 := Aside0.mk hR1
      have HG1 := Aside0.mk hg1
      clear hR1 hg1 hc hcall
      by_cases hf : f = 0
      · subst hf
        obtain ⟨hn0, hn1⟩ := hbd rfl (by omega)
        clear hbd
        rw [erV_zero]
        have hrz : (r.size : Int) ≤ 100000 := by omega
        have HT := Aside0.mk hsz
        clear hsz
        have hn2 : (n + 2).toNat = n.toNat + 2 := by omega
        by_cases h2 : (r.size : Int) < n + 2
        · go_wp2
          go_ret2
          rw [HH.out, if_neg (by simp), if_pos (by omega)]
          exact ⟨rfl, HR1.out, HG1.out⟩
        · rcases eq_crlf (r.extract n.toNat (n + 2).toNat) with ⟨hx, hy⟩ | ⟨hx, hy⟩
          · have HY := Aside0.mk hy
            have HN := Aside0.mk hn2
            clear hy hn2
            go_wp2
            go_ret2
            rw [HH.out, if_neg (by simp), if_neg (by omega), if_pos (by rw [← HN.out]; exact HY.out)]
            exact ⟨rfl, HR1.out, HG1.out⟩
          · have HY := Aside0.mk hy
            have HN := Aside0.mk hn2
            clear hy hn2
            go_wp2
            go_ret2
            rw [HH.out, if_neg (by simp), if_neg (by omega), if_neg (by rw [← HN.out]; exact fun h => h HY.out), ← HN.out]
            exact ⟨rfl, HR1.out.set 0 _, grown_set HG1.out _ _⟩
      · rw [erV_ne hf]
        go_wp2
        go_ret2
        rw [HH.out, if_pos hf, erV_ne hf]
        exact ⟨rfl, HR1.out, HG1.out⟩
    · have hH : bulkB s = (⟨#[]⟩, 40, s) := by unfold bulkB; rw [if_neg h0, if_pos h36]
      have HH := Aside0.mk hH
      have h36b : (bt s 0 != 36) = true := by simpa using h36
      clear hH
      go_enter Tryd.func73, Tryd.ntmps73
      go_wp2
      go_ret2
      rw [HH.out]
      exact ⟨rfl, HR.out, grown_refl _ _⟩
end Go.Proofs.YtjcbbmjmhfimcaaDoor.P
