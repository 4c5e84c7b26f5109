/- The statement SkipCuts: cut at once, or taken out one by one. Conditions: each theorem names its own. -/
import Derived.Test.YtnlbdmiflihghaaPL6
import Derived.Test.YtnlbdmiflihghaaSKQ
namespace Go.Proofs.Ytnlbdmiflihghaa.P
open Go.RowKit Go.Shelf Go.Proofs.YtnlbdmiflihghaaW.PrintWords Go.Proofs.YtnlbdmiflihghaaW.PrintLast Go.Proofs.YtnlbdmiflihghaaW.PrintMore Go.Proofs.Ytnlbdmiflihghaa.SK
attribute [local go_sem] Oper.semAt_some

def paliolaw10_SkipCuts.f (_l0 : List S39) (_a1 _a2 : Int) : Option Bool := some true
section
theorem delN_get {α : Type} (A : Nat) (L : List α) : ∀ j i : Nat, (delN A j L)[A + i]? = L[A + j + i]?
  | 0, i => rfl
  | j + 1, i => by
    show ((delN A j L).eraseIdx A)[A + i]? = _
    rw [List.getElem?_eraseIdx, if_neg (by omega), show A + i + 1 = A + (i + 1) by omega, delN_get A L j (i + 1), show A + j + (i + 1) = A + (j + 1) + i by omega]
theorem delN_srt (A : Nat) (L : List En) (h : Srt L) : ∀ j : Nat, Srt (delN A j L)
  | 0 => h
  | j + 1 => srt_erase _ (delN_srt A L h j) A
theorem cut_facts (p : Pl2) (hs : Srt p.1) (f t : Int) : ∃ A N : Nat, cutP p f t = ((N : Int), (delN A N p.1, delN A N p.2)) ∧ (rangeP p f t).length = N ∧ A + N ≤ p.1.length ∧
    ∀ j, j < N → delP ((rangeP p f t).getD j zE) (delN A j p.1, delN A j p.2) = (true, (delN A (j + 1) p.1, delN A (j + 1) p.2)) := by
  obtain ⟨A, T, hF, hT, hFT, hTn⟩ := in_nat p.1.length f t
  refine ⟨A, T - A, ?_, ?_, by omega, fun j hj => ?_⟩
  · unfold cutP
    rw [hF, hT, show ((T : Nat) : Int).toNat = T by omega, show ((A : Nat) : Int).toNat = A by omega, show ((T : Nat) : Int) - (A : Int) = ((T - A : Nat) : Int) by omega]
  · unfold rangeP
    rw [hF, hT, List.length_take, List.length_drop]
    omega
  · have hr : (rangeP p f t).getD j zE = p.1[A + j]'(by omega) := by
      unfold rangeP
      rw [hF, hT, show ((T : Nat) : Int).toNat = T by omega, show ((A : Nat) : Int).toNat = A by omega, List.getD_eq_getElem?_getD, List.getElem?_take, if_pos hj, List.getElem?_drop, List.getElem?_eq_getElem (by omega)]
      rfl
    have hl := delN_len A p.1 j (by omega)
    have hg := delN_get A p.1 j 0
    rw [Nat.add_zero, Nat.add_zero, List.getElem?_eq_getElem (by omega), List.getElem?_eq_getElem (by omega)] at hg
    injection hg with hg
    have hrk := rank_self (delN_srt A p.1 hs j) A (by omega)
    have hm : isin ((rangeP p f t).getD j zE) (delN A j p.1) = true := isin_iff.mpr (by rw [hr, ← hg]; exact List.getElem_mem _)
    rw [hg, ← hr] at hrk
    unfold delP
    rw [if_pos hm]
    show (true, ((delN A j p.1).eraseIdx (rank _ (delN A j p.1)), (delN A j p.2).eraseIdx (rank _ (delN A j p.1)))) = _
    rw [hrk]
    rfl
end
set_option maxHeartbeats 8000000 in
set_option maxRecDepth 100000 in
theorem paliolaw10_SkipCuts.calls (A0 : Option Addr) (c0 : Nat) (l0 : List S39) (a1 a2 : Int) (r : Bool) (w : World) (hr0 : Kd.C k39 w A0 l0.length l0) (_hc0 : l0.length ≤ c0) (h : paliolaw10_SkipCuts.f l0 a1 a2 = some r) :
    Calls Try.prog 7 #[.slice A0 l0.length c0, .int .i64 a1, .int .i64 a2] w fun e w' => e = .returned (.bool r) ∧ Below w.heap.size w w' := by
  obtain rfl : r = true := by
    injection h with h
    exact h.symm
  clear h
  have HR := Aside0.mk hr0
  clear hr0
  go_enter Try.func7, Try.ntmps7
  go_wp2_with fail
  refine (shown_calls w).mono ?_
  rintro e w1 ⟨rfl, hb1⟩
  have hm1 : w.heap.size ≤ w1.heap.size := hb1.size
  have HR1 := Aside0.mk (Kd.C_below HR.out hb1)
  have hm := made_calls l0 A0 c0 w1 HR1.out
  have HB1 := Aside0.mk hb1
  clear hb1 HR
  go_wp2_with fail
  refine hm.mono ?_
  rintro e w2 ⟨F, rfl, hO⟩
  have hm2 := made_calls l0 A0 c0 w2 (Kd.C_below HR1.out hO.bl)
  have HO := Aside0.mk hO
  clear hm hO HR1
  go_wp2_with fail
  refine hm2.mono ?_
  rintro e w3 ⟨F2, rfl, hO2⟩
  have hT := HO.out.two hO2
  clear hm2 hO2 HO
  have hpl : (madeP l0).1.length ≤ 120 := Nat.le_trans (madeN_len l0 _) (Nat.min_le_right _ _)
  generalize w1.heap.size = b at hT hm1 ⊢
  generalize w2.heap.size = b2 at hT ⊢
  generalize madeP l0 = p at hT hpl
  have hrg := ls_range hT.a.ls a1 a2
  have HT := Aside0.mk hT
  clear hT
  go_wp2_with fail
  refine hrg.mono ?_
  rintro e w4 ⟨v4, rfl, hR4, hb4⟩
  obtain ⟨A4, c4, rfl, hc4, _⟩ := hR4.reads
  obtain ⟨A, N, hcut, hln, hAN, hdel⟩ := cut_facts p HT.out.a.ls.srt a1 a2
  have hT4 := HT.out.row hR4 hb4
  have hct := ls_cut hT4.two.a.ls (by omega) a1 a2
  rw [hcut] at hct
  have hm120 : N ≤ 120 := by omega
  clear hrg hR4 hb4 HT hcut
  generalize rangeP p a1 a2 = L at hT4 hc4 hln hdel ⊢
  rw [hln] at hc4 hT4 ⊢
  have HD := Aside0.mk hdel
  have HL := Aside0.mk hln
  have HT4 := Aside0.mk hT4
  clear hdel hln hT4
  go_wp2_with fail
  refine hct.mono ?_
  rintro e w5 ⟨rfl, ha5⟩
  obtain ⟨F5, hT5⟩ := HT4.out.fst ha5
  have HT5 := Aside0.mk hT5
  clear hct ha5 hT5 HT4
  go_wp2
  go_loopg [12] N (fun gk v12 wr => ∃ (i : Nat) (F2 : List Nat), v12 = .int .i64 (i : Int) ∧ i ≤ N ∧ gk = N - i ∧ Aside0 (Row2 b w1 wr b F5 (delN A N p.1, delN A N p.2) b2 F2 (delN A i p.1, delN A i p.2) (.slice A4 N c4) L))
  case atStart => exact ⟨0, F2, rfl, Nat.zero_le _, rfl, HT5⟩
  case round =>
    clear HT5
    obtain ⟨i, F2, rfl, hi, hgk, HT⟩ := hrel
    by_cases hin : i < N
    · have hiz : (i : Int) < (N : Int) := by omega
      have hrd := HT.out.reads
      rw [HL.out] at hrd
      obtain ⟨ad3, hA3, x0, x1⟩ := at_E hrd i hin (by rw [HL.out]; exact hin)
      subst hA3
      have hdl := ls_delete HT.out.two.b.ls (L.getD i zE)
      rw [HD.out i hin] at hdl
      generalize L.getD i zE = ee at x0 x1 hdl
      clear hrd
      go_wp2_with fail
      refine hdl.mono ?_
      rintro e w6 ⟨rfl, ha6⟩
      obtain ⟨F6, hT6⟩ := HT.out.snd ha6
      have HT6 := Aside0.mk hT6
      clear hdl ha6 hT6 HT x0 x1
      go_wp2
      go_roundg (N - (i + 1))
      case measure => omega
      case rel => exact ⟨i + 1, F6, congrArg (Value.int .i64) (by first | exact wrap_succ i (by omega) | omega), by omega, rfl, HT6⟩
    · have hiz : ¬ (i : Int) < (N : Int) := by omega
      obtain rfl : i = N := by omega
      have HT2 := Aside0.mk HT.out.two
      have hl1 := ls_len HT2.out.a.ls
      have hlv1 := ls_levels HT2.out.a.ls
      have hq1 : (delN A i p.1).length ≤ 120 := Nat.le_trans (delN_le A p.1 i) hpl
      clear HT HD
      generalize hqe : ((delN A i p.1, delN A i p.2) : Pl2) = q at HT2 hl1
      replace hq1 : q.1.length ≤ 120 := by rw [← hqe]; exact hq1
      clear hqe hlv1
      have hr1 := ls_range HT2.out.a.ls 0 (q.1.length : Int)
      have hpl2 : (rangeP q 0 (q.1.length : Int)).length ≤ 120 := Nat.le_trans (rangeP_le q _ _) (by omega)
      go_wp2_with fail
      refine hl1.mono ?_
      rintro e w4 ⟨rfl, rfl⟩
      go_wp2_with fail
      refine hr1.mono ?_
      rintro e w5 ⟨v5, rfl, hR5, hb5⟩
      obtain ⟨A5, c5, rfl, hc5, hC5⟩ := hR5.reads
      have hT5 := HT2.out.below hb5
      have hl3 := ls_len hT5.b.ls
      have hr2 := ls_range hT5.b.ls 0 (q.1.length : Int)
      have HT5 := Aside0.mk hT5
      have HC5 := Aside0.mk hC5
      clear hl1 hr1 hR5 hb5 hT5 hC5
      go_wp2_with fail
      refine hl3.mono ?_
      rintro e w6 ⟨rfl, rfl⟩
      go_wp2_with fail
      refine hr2.mono ?_
      rintro e w7 ⟨v7, rfl, hR7, hb7⟩
      obtain ⟨A7, c7, rfl, hc7, hC7⟩ := hR7.reads
      have hT7 := HT5.out.below hb7
      have hsm := same_calls (rangeP q 0 (q.1.length : Int)) _ rfl (by omega) A5 A7 c5 c7 w7 (Kd.C_below HC5.out hb7) hc5 hC7 hc7
      have HT7 := Aside0.mk hT7
      clear hl3 hr2 hR7 hb7 hT7 hC7 HC5
      go_wp2_with fail
      refine hsm.mono ?_
      rintro e w8 ⟨rfl, hb8⟩
      have HT8 := HT7.out.below hb8
      have hv1 := ls_levels HT8.a.ls
      have hv2 := ls_levels HT8.b.ls
      have HE8 := Aside0.mk (HT8.a.out HB1.out hm1)
      clear hsm hb8 HT8
      go_wp2_with fail
      refine hv1.mono ?_
      rintro e w9 ⟨rfl, rfl⟩
      go_wp2_with fail
      refine hv2.mono ?_
      rintro e w10 ⟨rfl, rfl⟩
      go_wp2
      go_ret
      exact ⟨rfl, HE8.out⟩
end Go.Proofs.Ytnlbdmiflihghaa.P
