/- The words of a line, and a request of the second kind. Conditions: that the text has at most a hundred thousand bytes. -/
import Derived.Test.YtjcbbmjmhfimcaaDoorPK3
import Derived.WalkMore
namespace Go.Proofs.YtjcbbmjmhfimcaaDoor.P
open Go.RowKit Go.Lib Go.Proofs.YtjcbbmjmhfimcaaDoorW.PrintWords Go.Proofs.YtjcbbmjmhfimcaaDoorW.PrintLast Go.Proofs.YtjcbbmjmhfimcaaDoorW.PrintMore
attribute [local go_sem] Oper.semAt_some

/-- The words of a text from a place on: 'from' is where the word at hand begins, 'out' are those that have come. -/
def wds (s : ByteArray) : Nat → Nat → Nat → List ByteArray → List ByteArray
  | 0, _, from_, out => if from_ < s.size then out ++ [s.extract from_ s.size] else out
  | f + 1, pos, from_, out =>
    if pos < s.size then
      (if (Utf8.decode s pos).1 = 32 ∨ (Utf8.decode s pos).1 = 9 then wds s f (pos + (Utf8.decode s pos).2) (pos + 1) (if from_ < pos then out ++ [s.extract from_ pos] else out)
       else wds s f (pos + (Utf8.decode s pos).2) from_ out)
    else if from_ < s.size then out ++ [s.extract from_ s.size] else out
def wordsB (s : ByteArray) : List ByteArray := wds s s.size 0 0 []
theorem width_pos (s : ByteArray) (pos : Nat) (h : pos < s.size) : 1 ≤ (Utf8.decode s pos).2 := by
  by_cases ha : (s[pos]'h).toNat < 128
  · rw [decode_ascii s pos h ha]
    exact Nat.le_refl _
  · exact (decode_high s pos h (by omega)).2
/-- One round's state. -/
structure AtW (s : ByteArray) (w0 : World) (pos fuel from_ : Nat) (out : List ByteArray) (wr : World) : Prop where
  it : wr.heap[w0.heap.size]? = some (.stringIter s pos)
  bel : Below w0.heap.size w0 wr
  eq : wds s fuel pos from_ out = wordsB s
  fu : s.size ≤ pos + fuel
  fr : from_ ≤ pos
  ol : out.length ≤ pos ∧ out.length ≤ s.size
theorem append_w {ops : Array Oper} {rest : List Oper} {o : Oper} {a : Act} {Q : Exit → Act → World → Prop} {w0 W : World} (hgd : o.guard = none) (x y : Operand) (ho : o.op = .call { callee := .builtin .append, args := #[x, y], argTypes := #[22, 22] })
    (s : ByteArray) (pos : Nat) (v : Value) (out : List ByteArray) (p : ByteArray) (hs : a.eval x = v) (hx : a.eval y = .slice (some ⟨W.heap.size, 0, none⟩) 1 1)
    (HO : Kd.R Kd.string 9 W w0.heap.size (fun k => k ≠ w0.heap.size) v out) (hi : W.heap[w0.heap.size]? = some (.stringIter s pos)) (HB : Below w0.heap.size w0 W) (hl : out.length ≤ 100000)
    (h : ∀ v1 w1, Kd.R Kd.string 9 w1 w0.heap.size (fun k => k ≠ w0.heap.size) v1 (out ++ [p]) → w1.heap[w0.heap.size]? = some (.stringIter s pos) → Below w0.heap.size w0 w1 → wpList Tryd.prog ops Q rest (a.put o.dst v1) w1) :
    wpList Tryd.prog ops Q (o :: rest) a (W.alloc (.cells #[.string p] 9)) :=
  Kd.R_append Kd.string (w0 := w0) (W := W) w0.heap.size hgd x y 22 9 (.string ⟨#[]⟩) 16 ho Tryd.underlying22 info9s rfl (Nat.lt_succ_self 0) (by omega) v out p [.string p] (fun k => k ≠ w0.heap.size) (fun _ => False) hs hx rfl (fun _ hk => hk.elim)
    (fun k hk => by have := (Array.getElem?_eq_some_iff.1 hi).1; omega) HO HB HB.size (by omega)
    (fun v1 w1 h1 h2 h3 _ => h v1 w1 h1 ((h3.block _ (Array.getElem?_eq_some_iff.1 hi).1 (fun e => HO.1 _ e.symm rfl)).trans hi) h2)
set_option maxHeartbeats 8000000 in
set_option maxRecDepth 100000 in
theorem words_calls (s : ByteArray) (hs : s.size ≤ 100000) (w : World) :
    Calls Tryd.prog 87 #[.string s] w fun e w' => ∃ v, e = .returned v ∧ Kd.R Kd.string 9 w' w.heap.size (fun _ => True) v (wordsB s) ∧ Below w.heap.size w w' := by
  go_enter Tryd.func87, Tryd.ntmps87
  go_wp2
  go_loopg [3, 4] s.size (fun gg s3 s4 wr => ∃ (pos fuel from_ : Nat) (out : List ByteArray), s4 = .int .i64 from_ ∧ s.size - pos ≤ gg ∧ Aside0 (Kd.R Kd.string 9 wr w.heap.size (fun k => k ≠ w.heap.size) s3 out) ∧ Aside0 (AtW s w pos fuel from_ out wr))
  case atStart =>
    exact ⟨0, s.size, 0, [], rfl, by omega, ⟨Kd.R_nil _ _ _ _ _⟩, ⟨⟨by simp [World.iter_heap], below_alloc (Below.refl _ _) _, rfl, by omega, Nat.le_refl _, Nat.le_refl _, Nat.zero_le _⟩⟩⟩
  case round =>
    obtain ⟨pos, fuel, from_, out, rfl, hg, HR, HA⟩ := hrel
    obtain ⟨Ao, co, hv⟩ := Kd.R_slice HR.out
    obtain ⟨lo, hlo⟩ : ∃ m, m = out.length := ⟨_, rfl⟩
    rw [← hlo] at hv
    subst hv
    by_cases hp : pos < s.size
    · have hnx : ∀ ty, (Instr.next (.pointer (some ⟨w.heap.size, 0, none⟩)) true ty).run Tryd.prog wr = _ := fun ty => Lib.run_next_any_at wr w.heap.size s pos ty HA.out.it hp
      have hwd := width_pos s pos hp
      have heq := HA.out.eq
      obtain ⟨f, rfl⟩ : ∃ f, fuel = f + 1 := ⟨fuel - 1, by have := HA.out.fu; omega⟩
      rw [wds, if_pos hp] at heq
      have hit := Lib.iterAt_heap wr _ s pos (pos + (Utf8.decode s pos).2) HA.out.it
      have hbl := Lib.below_iterAt HA.out.bel (Nat.le_refl _) s (pos + (Utf8.decode s pos).2)
      have HR1 := Aside0.mk (Kd.R_step (w1 := wr.iterAt w.heap.size s (pos + (Utf8.decode s pos).2)) HR.out (fun k hk _ => Lib.iterAt_other wr _ k s _ hk))
      have hfu := HA.out.fu
      have hfr := HA.out.fr
      have hol := HA.out.ol
      obtain ⟨wi, hwi⟩ : ∃ wi, wi = (Utf8.decode s pos).2 := ⟨_, rfl⟩
      obtain ⟨ru, hru⟩ : ∃ ru : Int, ru = ((Utf8.decode s pos).1 : Int) := ⟨_, rfl⟩
      rw [← hwi] at hnx heq hit hbl HR1 hwd
      rw [← hru] at hnx
      obtain ⟨wq, hwq⟩ : ∃ wq, wq = wr.iterAt w.heap.size s (pos + wi) := ⟨_, rfl⟩
      rw [← hwq] at hnx hit hbl HR1
      clear hwq HR HA
      have HIT := Aside0.mk hit
      have HBL := Aside0.mk hbl
      have hsz := (Array.getElem?_eq_some_iff.1 hit).1
      clear hit hbl
      have hq1 : (ru = 32 ∨ ru = 9) → wds s f (pos + wi) (pos + 1) (if from_ < pos then out ++ [s.extract from_ pos] else out) = wordsB s := fun hb => by rw [if_pos (by omega)] at heq; exact heq
      have hq2 : ¬ (ru = 32 ∨ ru = 9) → wds s f (pos + wi) from_ out = wordsB s := fun hb => by rw [if_neg (by omega)] at heq; exact heq
      clear heq hru hwi
      by_cases hb : ru = 32 ∨ ru = 9
      · have HE := Aside0.mk (hq1 hb)
        have HL := Aside0.mk hlo
        clear hq1 hq2 hlo
        by_cases hfp : from_ < pos
        · have hfz : (from_ : Int) < (pos : Int) := by omega
          have H2 := HE.out
          rw [if_pos hfp] at H2
          have HE2 := Aside0.mk H2
          clear H2
          rcases hb with rfl | rfl
          all_goals
            go_wp2_with (first | ((with_reducible refine gate_builtin (b := .append) (xs := #[.tmp 22, .tmp 27]) rfl ?_); at_builtin; refine append_w rfl (.tmp 22) (.tmp 27) rfl s (pos + wi) _ out (s.extract from_ pos) rfl rfl HR1.out HIT.out HBL.out (by omega) ?_; intro v1 wz ho hz hbz))
            go_roundg (s.size - (pos + wi))
            case measure => omega
            case rel => exact ⟨pos + wi, f, pos + 1, out ++ [s.extract from_ pos], by go_num, by omega, ⟨ho⟩, ⟨⟨hz, hbz, HE2.out, by omega, by omega, by rw [List.length_append, List.length_singleton]; omega, by rw [List.length_append, List.length_singleton]; omega⟩⟩⟩
        · have hfz : ¬ (from_ : Int) < (pos : Int) := by omega
          have H2 := HE.out
          rw [if_neg hfp] at H2
          have HE2 := Aside0.mk H2
          clear H2
          rcases hb with rfl | rfl
          all_goals
            go_wp2
            go_roundg (s.size - (pos + wi))
            case measure => omega
            case rel => exact ⟨pos + wi, f, pos + 1, out, by go_num, by omega, HR1, ⟨⟨HIT.out, HBL.out, HE2.out, by omega, by omega, by omega, hol.2⟩⟩⟩
      · have HE := Aside0.mk (hq2 hb)
        have HL := Aside0.mk hlo
        have h32 : (ru == 32) = false := by simp; omega
        have h9 : (ru == 9) = false := by simp; omega
        clear hq1 hq2 hlo
        go_wp2
        go_roundg (s.size - (pos + wi))
        case measure => omega
        case rel => exact ⟨pos + wi, f, from_, out, by go_num, by omega, HR1, ⟨⟨HIT.out, HBL.out, HE.out, by omega, by omega, by omega, hol.2⟩⟩⟩
    · have hnx : ∀ ty, (Instr.next (.pointer (some ⟨w.heap.size, 0, none⟩)) true ty).run Tryd.prog wr = _ := fun ty => Lib.run_next_end_at wr w.heap.size s pos ty HA.out.it hp
      have heq := HA.out.eq
      have hfin : (if from_ < s.size then out ++ [s.extract from_ s.size] else out) = wordsB s := by
        rw [← heq]
        cases fuel with
        | zero => rfl
        | succ f => rw [wds, if_neg hp]
      have HF := Aside0.mk hfin
      clear heq hfin
      have HIT := Aside0.mk HA.out.it
      have HBL := Aside0.mk HA.out.bel
      have HL := Aside0.mk hlo
      have hol : out.length ≤ 100000 := by have := HA.out.ol.2; omega
      clear hlo
      by_cases hfs : from_ < s.size
      · have hfz : (from_ : Int) < (s.size : Int) := by omega
        have H2 := HF.out
        rw [if_pos hfs] at H2
        have HF2 := Aside0.mk H2
        clear H2
        go_wp2_with (first | ((with_reducible refine gate_builtin (b := .append) (xs := #[.tmp 35, .tmp 39]) rfl ?_); at_builtin; refine append_w rfl (.tmp 35) (.tmp 39) rfl s pos _ out (s.extract from_ s.size) rfl rfl HR.out HIT.out HBL.out (by omega) ?_; intro v1 wz ho hz hbz))
        go_ret
        rw [← HF2.out]
        exact ⟨_, rfl, Kd.R_mono ho (fun _ _ => trivial), hbz⟩
      · have hfz : ¬ (from_ : Int) < (s.size : Int) := by omega
        have H2 := HF.out
        rw [if_neg hfs] at H2
        have HF2 := Aside0.mk H2
        clear H2
        go_wp2
        go_ret
        rw [← HF2.out]
        exact ⟨_, rfl, Kd.R_mono HR.out (fun _ _ => trivial), HBL.out⟩
def lf : ByteArray := ⟨#[10]⟩
def trimB (s : ByteArray) : ByteArray := ⟨(Lib.trimSuffix s.data.toList [13]).toArray⟩
/-- A request of the second kind: its arguments, what is wrong, what is left (where nothing is wrong). -/
def inlineB (s : ByteArray) : List ByteArray × Int × ByteArray :=
  if indexB s lf = -1 then ([], if 1024 < s.size then 40 else 31, s)
  else if 1024 < (indexB s lf).toNat ∨ 64 < (wordsB (trimB (s.extract 0 (indexB s lf).toNat))).length then ([], 40, s)
  else (wordsB (trimB (s.extract 0 (indexB s lf).toNat)), 0, s.extract ((indexB s lf).toNat + 1) s.size)
theorem trimB_size (s : ByteArray) : (trimB s).size ≤ s.size := by
  unfold trimB Lib.trimSuffix
  rw [size_eq, size_eq]
  split
  · simp
  · simp
theorem wds_len (s : ByteArray) : ∀ (f pos from_ : Nat) (out : List ByteArray), (wds s f pos from_ out).length ≤ out.length + f + 1
  | 0, pos, from_, out => by
    unfold wds
    split
    · rw [List.length_append, List.length_singleton]; omega
    · omega
  | f + 1, pos, from_, out => by
    unfold wds
    split
    · split
      · refine Nat.le_trans (wds_len s f _ _ _) ?_
        split
        · rw [List.length_append, List.length_singleton]; omega
        · omega
      · exact Nat.le_trans (wds_len s f _ _ _) (by omega)
    · split
      · rw [List.length_append, List.length_singleton]; omega
      · omega
set_option maxHeartbeats 4000000 in
theorem inline_calls (R : Nat) (s : ByteArray) (hs : s.size ≤ 100000) (w : World) (hG : G w) (_h2 : 2 < R) (hR : Blk w R 50 #[.string s]) :
    Calls Tryd.prog 86 #[.agg #[], .pointer (some ⟨R, 0, none⟩)] w fun e w' => ∃ v,
      e = .returned (.tuple #[v, erV (inlineB s).2.1]) ∧ Kd.R Kd.string 9 w' w.heap.size (fun _ => True) v (inlineB s).1 ∧ ((inlineB s).2.1 = 0 → Blk w' R 50 #[.string (inlineB s).2.2]) ∧ w.grownBy w' (some R) := by
  have hb1 := below_alloc (Below.refl _ w) (.cells #[] 67)
  have hG1 := hG.below hb1
  have hR1 := hR.below hb1
  have hc : (w.alloc (.cells #[] 67)).cell? ⟨R, 0, none⟩ = some (.string s) := hR1.cell 0
  have HG := Aside0.mk hG1
  have HR := Aside0.mk hR1
  have HB1 := Aside0.mk hb1
  have hlt := hR.lt
  clear hG hR hG1 hR1 hb1
  rcases indexB_cases s lf with hm | ⟨i, hi1, hi2⟩
  · have hH : inlineB s = ([], if 1024 < s.size then 40 else 31, s) := by unfold inlineB; rw [if_pos hm]
    have HH := Aside0.mk hH
    have HM := Aside0.mk hm
    clear hH hm
    go_enter Tryd.func86, Tryd.ntmps86
    go_wp2_with fail
    refine (cut_miss s lf hs HM.out _ HG.out).mono ?_
    rintro e w1 ⟨rfl, hb⟩
    have hc1 : w1.cell? ⟨R, 0, none⟩ = some (.string s) := (hb.cell (p := ⟨R, 0, none⟩) HR.out.lt).trans hc
    have HB := Aside0.mk (HB1.out.trans (hb.mono (by simp)))
    clear hb hc
    by_cases h32 : (1024 : Int) < (s.size : Int)
    · go_wp2
      go_ret2
      refine ⟨.slice none 0 0, ?_, ?_, ?_, grown_below HB.out _⟩
      · rw [HH.out, if_pos (by omega)]; rfl
      · rw [HH.out]; exact Kd.R_nil _ _ _ _ _
      · rw [HH.out, if_pos (by omega)]; exact fun h => by cases h
    · go_wp2
      go_ret2
      refine ⟨.slice none 0 0, ?_, ?_, ?_, grown_below HB.out _⟩
      · rw [HH.out, if_neg (by omega)]; rfl
      · rw [HH.out]; exact Kd.R_nil _ _ _ _ _
      · rw [HH.out, if_neg (by omega)]; exact fun h => by cases h
  · have h2 : lf.size = 1 := rfl
    have hH : inlineB s = if 1024 < i ∨ 64 < (wordsB (trimB (s.extract 0 i))).length then ([], 40, s) else (wordsB (trimB (s.extract 0 i)), 0, s.extract (i + 1) s.size) := by
      unfold inlineB
      rw [if_neg (by omega), hi1]
      rfl
    have hsz : (s.extract 0 i).size = i := by rw [ByteArray.size_extract]; omega
    have HH := Aside0.mk hH
    have HM := Aside0.mk hi1
    clear hH hi1
    rw [h2] at hi2
    clear h2
    go_enter Tryd.func86, Tryd.ntmps86
    go_wp2_with fail
    refine (cut_hit s lf hs i HM.out _ HG.out).mono ?_
    rintro e w1 ⟨rfl, hb⟩
    have HB := Aside0.mk (HB1.out.trans (hb.mono (by simp)))
    have HRb := Aside0.mk (HR.out.below hb)
    rw [show lf.size = 1 from rfl]
    have hts := trimB_size (s.extract 0 i)
    clear hb hc
    go_wp2_with fail
    refine (Tryd.strings_TrimSuffix (s.extract 0 i) ⟨#[13]⟩ w1 (by omega)).mono ?_
    rintro e w9 ⟨rfl, rfl⟩
    have hwc := words_calls (trimB (s.extract 0 i)) (by omega) w9
    rw [show (⟨(Lib.trimSuffix (s.extract 0 i).data.toList (ByteArray.mk #[13]).data.toList).toArray⟩ : ByteArray) = trimB (s.extract 0 i) from rfl]
    have hwl : (wordsB (trimB (s.extract 0 i))).length ≤ 100001 := by have := wds_len (trimB (s.extract 0 i)) (trimB (s.extract 0 i)).size 0 0 []; unfold wordsB; simp only [List.length_nil] at this; omega
    generalize wordsB (trimB (s.extract 0 i)) = ws at HH hwc hwl
    generalize trimB (s.extract 0 i) = tr at hwc ⊢
    clear hts
    go_wp2_with fail
    refine hwc.mono ?_
    rintro e w2 ⟨v, rfl, hv, hb2⟩
    have hS := Kd.R_slice hv
    have HV := Aside0.mk (Kd.R_lower hv HB.out.size)
    obtain ⟨m, hm⟩ : ∃ m, m = ws.length := ⟨_, rfl⟩
    rw [← hm] at hS hwl
    obtain ⟨A, c, rfl⟩ := hS
    have HM2 := Aside0.mk hm
    have HB2 := Aside0.mk (HB.out.trans (hb2.mono HB.out.size))
    have hR2 := HRb.out.below hb2
    have hc2 : w2.cell? ⟨R, 0, none⟩ = some (.string s) := hR2.cell 0
    have hf2 := hR2.frozen 0
    have HR2 := Aside0.mk hR2
    clear hR2 hb2 hwc hm hv
    have hiz : ((s.extract 0 i).size : Int) = (i : Int) := by omega
    by_cases hb : 1024 < i
    · have hbz : (1024 : Int) < (i : Int) := by omega
      go_wp2
      go_ret2
      refine ⟨.slice none 0 0, ?_, ?_, ?_, grown_below HB2.out _⟩
      · rw [HH.out, if_pos (.inl hb)]; rfl
      · rw [HH.out, if_pos (.inl hb)]; exact Kd.R_nil _ _ _ _ _
      · rw [HH.out, if_pos (.inl hb)]; exact fun h => by cases h
    · have hbz : ¬ (1024 : Int) < (i : Int) := by omega
      by_cases h64 : 64 < m
      · have h64z : (64 : Int) < (m : Int) := by omega
        go_wp2
        go_ret2
        refine ⟨.slice none 0 0, ?_, ?_, ?_, grown_below HB2.out _⟩
        · rw [HH.out, if_pos (.inr (by rw [← HM2.out]; exact h64))]; rfl
        · rw [HH.out, if_pos (.inr (by rw [← HM2.out]; exact h64))]; exact Kd.R_nil _ _ _ _ _
        · rw [HH.out, if_pos (.inr (by rw [← HM2.out]; exact h64))]; exact fun h => by cases h
      · have h64z : ¬ (64 : Int) < (m : Int) := by omega
        have hno : ¬ (1024 < i ∨ 64 < ws.length) := by rw [← HM2.out]; omega
        have HN := Aside0.mk hno
        clear hno
        go_wp2
        go_ret2
        refine ⟨.slice A m c, ?_, ?_, ?_, grown_set (grown_below HB2.out _) _ _⟩
        · rw [HH.out, if_neg HN.out]; rfl
        · rw [HH.out, if_neg HN.out]
          exact Kd.R_mono (Kd.R_grown (Kd.R_bound HV.out) (grownBy_setCell' w2 R _) (fun k hk e => by cases e; have := hk.2.1; omega)) (fun _ _ => trivial)
        · rw [HH.out, if_neg HN.out]
          exact fun _ => HR2.out.set 0 _
end Go.Proofs.YtjcbbmjmhfimcaaDoor.P
