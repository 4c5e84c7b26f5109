/- The statement SkipLevels: what a list holds does not hang on levels. Conditions: each theorem names its own. -/
import Derived.Test.YtnlbdmiflihghaaPL2
import Derived.Test.YtnlbdmiflihghaaSKQ
namespace Go.Proofs.Ytnlbdmiflihghaa.P
open Go.RowKit Go.Shelf Go.Proofs.YtnlbdmiflihghaaW.PrintWords Go.Proofs.YtnlbdmiflihghaaW.PrintLast Go.Proofs.YtnlbdmiflihghaaW.PrintMore Go.Proofs.Ytnlbdmiflihghaa.SK
attribute [local go_sem] Oper.semAt_some

def paliolaw10_SkipLevels.f (_l0 : List S39) (_l1 _l2 : List Int) : Option Bool := some true
set_option maxHeartbeats 8000000 in
set_option maxRecDepth 100000 in
theorem paliolaw10_SkipLevels.calls (A0 : Option Addr) (c0 : Nat) (l0 : List S39) (A1 : Option Addr) (c1 : Nat) (l1 : List Int) (A2 : Option Addr) (c2 : Nat) (l2 : List Int) (r : Bool) (w : World) (hr0 : Kd.C k39 w A0 l0.length l0) (_hc0 : l0.length ≤ c0) (hr1 : Kd.C (Kd.int .i64) w A1 l1.length l1) (_hc1 : l1.length ≤ c1) (hr2 : Kd.C (Kd.int .i64) w A2 l2.length l2) (_hc2 : l2.length ≤ c2) (h : paliolaw10_SkipLevels.f l0 l1 l2 = some r) :
    Calls Try.prog 5 #[.slice A0 l0.length c0, .slice A1 l1.length c1, .slice A2 l2.length c2] w fun e w' => e = .returned (.bool r) ∧ Below w.heap.size w w' := by
  obtain rfl : r = true := by
    injection h with h
    exact h.symm
  clear h
  have HC := Aside0.mk hr0
  have HC1 := Aside0.mk hr1
  have HC2 := Aside0.mk hr2
  have hmx : l0.length ≤ 9223372036854775807 := hr0.2.1
  clear hr0 hr1 hr2
  generalize hn : l0.length = n at hmx HC
  have HN := Aside0.mk hn
  clear hn
  go_enter Try.func5, Try.ntmps5
  go_wp2_with fail
  refine (shown_calls w).mono ?_
  rintro e w1 ⟨rfl, hb1⟩
  have hm1 : w.heap.size ≤ w1.heap.size := hb1.size
  replace HC := Aside0.mk (Kd.C_below HC.out hb1)
  replace HC1 := Aside0.mk (Kd.C_below HC1.out hb1)
  replace HC2 := Aside0.mk (Kd.C_below HC2.out hb1)
  have HB1 := Aside0.mk hb1
  clear hb1
  go_wp2_with fail
  refine (ls_new w1).mono ?_
  rintro r w2 ⟨rfl, hL, hb⟩
  have hO1 : Own w1.heap.size w1 w2 w1.heap.size [] ([], []) := ⟨hL, fun c hc => by simp at hc; omega, hb⟩
  have HO1 := Aside0.mk hO1
  clear hL hb hO1
  go_wp2_with fail
  refine (ls_new w2).mono ?_
  rintro r w3 ⟨rfl, hL, hb⟩
  have hO1 : Own w2.heap.size w2 w3 w2.heap.size [] ([], []) := ⟨hL, fun c hc => by simp at hc; omega, hb⟩
  have HT := Aside0.mk (HO1.out.two hO1)
  clear hL hb hO1 HO1
  obtain ⟨b, hbe⟩ : ∃ b, b = w1.heap.size := ⟨_, rfl⟩
  have HBE := Aside0.mk hbe
  rw [← hbe] at HT hm1 ⊢
  generalize w2.heap.size = b2 at HT ⊢
  clear hbe
  go_wp2
  go_loopg [10, 11, 12] (min n 120) (fun gk v10 v11 v12 wr => ∃ (i : Nat) (F1 F2 : List Nat) (p1 p2 : Pl2), v10 = .int .i64 (i : Int) ∧ i ≤ min n 120 ∧ gk = min n 120 - i ∧ Aside0 (Two b w1 wr b F1 p1 b2 F2 p2) ∧ Aside0 (p1.1 = p2.1) ∧ p1.1.length ≤ i)
  case atStart => exact ⟨0, [], [], ([], []), ([], []), rfl, Nat.zero_le _, rfl, HT, ⟨rfl⟩, Nat.le_refl _⟩
  case round =>
    clear HT
    obtain ⟨i, F1, F2, p1, p2, rfl, hi, hgk, HT, HP, hpl⟩ := hrel
    by_cases hin : i < min n 120
    · have h1 : (i : Int) < (n : Int) := by omega
      have h2 : (i : Int) < 120 := by omega
      have h3 : i < n := by omega
      obtain ⟨ad, hA, hat⟩ := atA_of HC.out i h3
      subst hA
      have HT2 := Aside0.mk (HT.out.below ((Below.refl _ wr).drew))
      have hk : ∀ w', Below b w1 w' → AtA w' (ad.add (i * 6)) (rdA l0 i) := fun w' hb => hat.below (HBE.out ▸ hb)
      have HK := Aside0.mk hk
      clear hk hat
      generalize rdA l0 i = x at HK
      have HBL : Aside0 (Below w1.heap.size w1 wr) := ⟨HBE.out ▸ HT.out.a.bl⟩
      by_cases ia : i < l1.length
      · have iaz : (i : Int) < (l1.length : Int) := by omega
        obtain ⟨ad1, hA1, x1⟩ := at_I (Kd.C_below HC1.out HBL.out) i ia
        subst hA1
        have h31 := lv31_run (l1.getD i 0)
        obtain ⟨la1, la2⟩ := lv31_in (l1.getD i 0)
        generalize lv31 (l1.getD i 0) = la at h31 la1 la2
        generalize l1.getD i 0 = v1 at h31 x1
        by_cases ib : i < l2.length
        · have ibz : (i : Int) < (l2.length : Int) := by omega
          obtain ⟨ad2, hA2, x2⟩ := at_I (Kd.C_below HC2.out HBL.out) i ib
          subst hA2
          have h32 := lv31_run (l2.getD i 0)
          obtain ⟨lb1, lb2⟩ := lv31_in (l2.getD i 0)
          generalize lv31 (l2.getD i 0) = lb at h32 lb1 lb2
          generalize l2.getD i 0 = v2 at h32 x2
          obtain ⟨ra, q1, q2, hq, hql, hd1, hd2⟩ := lev_done x la lb p1 p2 HP.out la1 la2 lb1 lb2 i hpl (by omega)
          have HQ := Aside0.mk hq
          clear hq
          go_upto_region 13 with fail
          try clear x1
          try clear x2
          try clear h31
          try clear h32
          try clear la1 la2
          try clear lb1 lb2
          clear iaz ibz ia ib
          go_region_held3 (fun w' => w'.cell? (ad.add (i * 6)) = some (.int .i64 x.f0) ∧ w'.cell? ⟨(ad.add (i * 6)).block, (ad.add (i * 6)).off + 1, none⟩ = some (.string x.f1.f0) ∧ w'.cell? ⟨(ad.add (i * 6)).block, (ad.add (i * 6)).off + 2, none⟩ = some (.int .i64 x.f1.f1) ∧ w'.cell? ⟨(ad.add (i * 6)).block, (ad.add (i * 6)).off + 3, none⟩ = some (.int .i64 x.f2) ∧ w'.cell? ⟨(ad.add (i * 6)).block, (ad.add (i * 6)).off + 4, none⟩ = some (.int .i64 x.f3) ∧ w'.cell? ⟨(ad.add (i * 6)).block, (ad.add (i * 6)).off + 5, none⟩ = some (.int .i64 x.f4))
            (first | exact HK.out _ HT2.out.a.bl | exact HK.out _ HT4.out.a.bl | exact HK.out _ HT5.out.a.bl)
            (first
              | (go_at_call 18; refine (hd1 _ _ _ HT2.out.a.ls).mono ?_; rintro r4 w4 ⟨rfl, ha4⟩; obtain ⟨F4, hT4⟩ := HT2.out.fst ha4; have HT4 := Aside0.mk hT4; clear ha4 hT4 hd1)
              | (go_at_call 18; refine (hd2 _ _ _ HT4.out.b.ls).mono ?_; rintro r5 w5 ⟨rfl, ha5⟩; obtain ⟨F5, hT5⟩ := HT4.out.snd ha5; have HT5 := Aside0.mk hT5; clear ha5 hT5 hd2)
              | (go_at_call 12; refine (ls_len HT5.out.a.ls).mono ?_; rintro r6 w6 ⟨rfl, rfl⟩)
              | (go_at_call 12; refine (show Calls Try.prog 12 _ _ _ from HQ.out ▸ ls_len HT5.out.b.ls).mono ?_; rintro r6 w6 ⟨rfl, rfl⟩))
          go_wp2
          go_roundg (min n 120 - (i + 1))
          case measure => omega
          case rel => exact ⟨i + 1, F4, F5, q1, q2, congrArg (Value.int .i64) (by first | exact wrap_succ i (by omega) | omega), by omega, rfl, HT5, HQ, hql⟩
        · have ibz : ¬ (i : Int) < (l2.length : Int) := by omega
          obtain ⟨ra, q1, q2, hq, hql, hd1, hd2⟩ := lev_done x la 32 p1 p2 HP.out la1 la2 (by omega) (by omega) i hpl (by omega)
          have HQ := Aside0.mk hq
          clear hq
          go_upto_region 13 with fail
          try clear x1
          try clear x2
          try clear h31
          try clear h32
          try clear la1 la2
          try clear lb1 lb2
          clear iaz ibz ia ib
          go_region_held3 (fun w' => w'.cell? (ad.add (i * 6)) = some (.int .i64 x.f0) ∧ w'.cell? ⟨(ad.add (i * 6)).block, (ad.add (i * 6)).off + 1, none⟩ = some (.string x.f1.f0) ∧ w'.cell? ⟨(ad.add (i * 6)).block, (ad.add (i * 6)).off + 2, none⟩ = some (.int .i64 x.f1.f1) ∧ w'.cell? ⟨(ad.add (i * 6)).block, (ad.add (i * 6)).off + 3, none⟩ = some (.int .i64 x.f2) ∧ w'.cell? ⟨(ad.add (i * 6)).block, (ad.add (i * 6)).off + 4, none⟩ = some (.int .i64 x.f3) ∧ w'.cell? ⟨(ad.add (i * 6)).block, (ad.add (i * 6)).off + 5, none⟩ = some (.int .i64 x.f4))
            (first | exact HK.out _ HT2.out.a.bl | exact HK.out _ HT4.out.a.bl | exact HK.out _ HT5.out.a.bl)
            (first
              | (go_at_call 18; refine (hd1 _ _ _ HT2.out.a.ls).mono ?_; rintro r4 w4 ⟨rfl, ha4⟩; obtain ⟨F4, hT4⟩ := HT2.out.fst ha4; have HT4 := Aside0.mk hT4; clear ha4 hT4 hd1)
              | (go_at_call 18; refine (hd2 _ _ _ HT4.out.b.ls).mono ?_; rintro r5 w5 ⟨rfl, ha5⟩; obtain ⟨F5, hT5⟩ := HT4.out.snd ha5; have HT5 := Aside0.mk hT5; clear ha5 hT5 hd2)
              | (go_at_call 12; refine (ls_len HT5.out.a.ls).mono ?_; rintro r6 w6 ⟨rfl, rfl⟩)
              | (go_at_call 12; refine (show Calls Try.prog 12 _ _ _ from HQ.out ▸ ls_len HT5.out.b.ls).mono ?_; rintro r6 w6 ⟨rfl, rfl⟩))
          go_wp2
          go_roundg (min n 120 - (i + 1))
          case measure => omega
          case rel => exact ⟨i + 1, F4, F5, q1, q2, congrArg (Value.int .i64) (by first | exact wrap_succ i (by omega) | omega), by omega, rfl, HT5, HQ, hql⟩
      · have iaz : ¬ (i : Int) < (l1.length : Int) := by omega
        by_cases ib : i < l2.length
        · have ibz : (i : Int) < (l2.length : Int) := by omega
          obtain ⟨ad2, hA2, x2⟩ := at_I (Kd.C_below HC2.out HBL.out) i ib
          subst hA2
          have h32 := lv31_run (l2.getD i 0)
          obtain ⟨lb1, lb2⟩ := lv31_in (l2.getD i 0)
          generalize lv31 (l2.getD i 0) = lb at h32 lb1 lb2
          generalize l2.getD i 0 = v2 at h32 x2
          obtain ⟨ra, q1, q2, hq, hql, hd1, hd2⟩ := lev_done x 1 lb p1 p2 HP.out (by omega) (by omega) lb1 lb2 i hpl (by omega)
          have HQ := Aside0.mk hq
          clear hq
          go_upto_region 13 with fail
          try clear x1
          try clear x2
          try clear h31
          try clear h32
          try clear la1 la2
          try clear lb1 lb2
          clear iaz ibz ia ib
          go_region_held3 (fun w' => w'.cell? (ad.add (i * 6)) = some (.int .i64 x.f0) ∧ w'.cell? ⟨(ad.add (i * 6)).block, (ad.add (i * 6)).off + 1, none⟩ = some (.string x.f1.f0) ∧ w'.cell? ⟨(ad.add (i * 6)).block, (ad.add (i * 6)).off + 2, none⟩ = some (.int .i64 x.f1.f1) ∧ w'.cell? ⟨(ad.add (i * 6)).block, (ad.add (i * 6)).off + 3, none⟩ = some (.int .i64 x.f2) ∧ w'.cell? ⟨(ad.add (i * 6)).block, (ad.add (i * 6)).off + 4, none⟩ = some (.int .i64 x.f3) ∧ w'.cell? ⟨(ad.add (i * 6)).block, (ad.add (i * 6)).off + 5, none⟩ = some (.int .i64 x.f4))
            (first | exact HK.out _ HT2.out.a.bl | exact HK.out _ HT4.out.a.bl | exact HK.out _ HT5.out.a.bl)
            (first
              | (go_at_call 18; refine (hd1 _ _ _ HT2.out.a.ls).mono ?_; rintro r4 w4 ⟨rfl, ha4⟩; obtain ⟨F4, hT4⟩ := HT2.out.fst ha4; have HT4 := Aside0.mk hT4; clear ha4 hT4 hd1)
              | (go_at_call 18; refine (hd2 _ _ _ HT4.out.b.ls).mono ?_; rintro r5 w5 ⟨rfl, ha5⟩; obtain ⟨F5, hT5⟩ := HT4.out.snd ha5; have HT5 := Aside0.mk hT5; clear ha5 hT5 hd2)
              | (go_at_call 12; refine (ls_len HT5.out.a.ls).mono ?_; rintro r6 w6 ⟨rfl, rfl⟩)
              | (go_at_call 12; refine (show Calls Try.prog 12 _ _ _ from HQ.out ▸ ls_len HT5.out.b.ls).mono ?_; rintro r6 w6 ⟨rfl, rfl⟩))
          go_wp2
          go_roundg (min n 120 - (i + 1))
          case measure => omega
          case rel => exact ⟨i + 1, F4, F5, q1, q2, congrArg (Value.int .i64) (by first | exact wrap_succ i (by omega) | omega), by omega, rfl, HT5, HQ, hql⟩
        · have ibz : ¬ (i : Int) < (l2.length : Int) := by omega
          obtain ⟨ra, q1, q2, hq, hql, hd1, hd2⟩ := lev_done x 1 32 p1 p2 HP.out (by omega) (by omega) (by omega) (by omega) i hpl (by omega)
          have HQ := Aside0.mk hq
          clear hq
          go_upto_region 13 with fail
          try clear x1
          try clear x2
          try clear h31
          try clear h32
          try clear la1 la2
          try clear lb1 lb2
          clear iaz ibz ia ib
          go_region_held3 (fun w' => w'.cell? (ad.add (i * 6)) = some (.int .i64 x.f0) ∧ w'.cell? ⟨(ad.add (i * 6)).block, (ad.add (i * 6)).off + 1, none⟩ = some (.string x.f1.f0) ∧ w'.cell? ⟨(ad.add (i * 6)).block, (ad.add (i * 6)).off + 2, none⟩ = some (.int .i64 x.f1.f1) ∧ w'.cell? ⟨(ad.add (i * 6)).block, (ad.add (i * 6)).off + 3, none⟩ = some (.int .i64 x.f2) ∧ w'.cell? ⟨(ad.add (i * 6)).block, (ad.add (i * 6)).off + 4, none⟩ = some (.int .i64 x.f3) ∧ w'.cell? ⟨(ad.add (i * 6)).block, (ad.add (i * 6)).off + 5, none⟩ = some (.int .i64 x.f4))
            (first | exact HK.out _ HT2.out.a.bl | exact HK.out _ HT4.out.a.bl | exact HK.out _ HT5.out.a.bl)
            (first
              | (go_at_call 18; refine (hd1 _ _ _ HT2.out.a.ls).mono ?_; rintro r4 w4 ⟨rfl, ha4⟩; obtain ⟨F4, hT4⟩ := HT2.out.fst ha4; have HT4 := Aside0.mk hT4; clear ha4 hT4 hd1)
              | (go_at_call 18; refine (hd2 _ _ _ HT4.out.b.ls).mono ?_; rintro r5 w5 ⟨rfl, ha5⟩; obtain ⟨F5, hT5⟩ := HT4.out.snd ha5; have HT5 := Aside0.mk hT5; clear ha5 hT5 hd2)
              | (go_at_call 12; refine (ls_len HT5.out.a.ls).mono ?_; rintro r6 w6 ⟨rfl, rfl⟩)
              | (go_at_call 12; refine (show Calls Try.prog 12 _ _ _ from HQ.out ▸ ls_len HT5.out.b.ls).mono ?_; rintro r6 w6 ⟨rfl, rfl⟩))
          go_wp2
          go_roundg (min n 120 - (i + 1))
          case measure => omega
          case rel => exact ⟨i + 1, F4, F5, q1, q2, congrArg (Value.int .i64) (by first | exact wrap_succ i (by omega) | omega), by omega, rfl, HT5, HQ, hql⟩
    · have hl1 := ls_len HT.out.a.ls
      have hl2 := ls_len HT.out.b.ls
      have hr1 := ls_range HT.out.a.ls 0 (p1.1.length : Int)
      have hpl2 : (rangeP p1 0 (p1.1.length : Int)).length ≤ 120 := Nat.le_trans (rangeP_le p1 _ _) (by omega)
      rw [← HP.out] at hl2
      have HR2 : Aside0 (rangeP p2 0 (p1.1.length : Int) = rangeP p1 0 (p1.1.length : Int)) := ⟨rangeP_fst HP.out.symm _ _⟩
      have HT2 := HT
      clear HT
      by_cases g1 : i < n
      · have g2 : (i : Int) < (n : Int) := by omega
        have g3 : ¬ (i : Int) < 120 := by omega
        go_wp2_with fail
        refine hl1.mono ?_
        rintro e w4 ⟨rfl, rfl⟩
        go_wp2_with fail
        refine hr1.mono ?_
        rintro e w5 ⟨v5, rfl, hR5, hb5⟩
        obtain ⟨A5, c5, rfl, hc5, hC5⟩ := hR5.reads
        have hT5 := HT2.out.below hb5
        have hl3 := ls_len hT5.b.ls
        rw [← HP.out] at hl3
        have hr2 := ls_range hT5.b.ls 0 (p1.1.length : Int)
        rw [HR2.out] at hr2
        have HT5 := Aside0.mk hT5
        have HC5 := Aside0.mk hC5
        clear hl1 hr1 hR5 hb5 hT5 hC5 hl2
        go_wp2_with fail
        refine hl3.mono ?_
        rintro e w6 ⟨rfl, rfl⟩
        go_wp2_with fail
        refine hr2.mono ?_
        rintro e w7 ⟨v7, rfl, hR7, hb7⟩
        obtain ⟨A7, c7, rfl, hc7, hC7⟩ := hR7.reads
        have hT7 := HT5.out.below hb7
        have hsm := same_calls (rangeP p1 0 (p1.1.length : Int)) _ rfl (by omega) A5 A7 c5 c7 w7 (Kd.C_below HC5.out hb7) hc5 hC7 hc7
        have HT7 := Aside0.mk hT7
        clear hl3 hr2 hR7 hb7 hT7 hC7 HC5
        go_wp2_with fail
        refine hsm.mono ?_
        rintro e w8 ⟨rfl, hb8⟩
        have HT8 := HT7.out.below hb8
        have hE8 := HT8.a.out HB1.out hm1
        clear hsm hb8 HT8
        go_wp2
        go_ret
        exact ⟨rfl, hE8⟩
      · have g2 : ¬ (i : Int) < (n : Int) := by omega
        go_wp2_with fail
        refine hl1.mono ?_
        rintro e w4 ⟨rfl, rfl⟩
        go_wp2_with fail
        refine hr1.mono ?_
        rintro e w5 ⟨v5, rfl, hR5, hb5⟩
        obtain ⟨A5, c5, rfl, hc5, hC5⟩ := hR5.reads
        have hT5 := HT2.out.below hb5
        have hl3 := ls_len hT5.b.ls
        rw [← HP.out] at hl3
        have hr2 := ls_range hT5.b.ls 0 (p1.1.length : Int)
        rw [HR2.out] at hr2
        have HT5 := Aside0.mk hT5
        have HC5 := Aside0.mk hC5
        clear hl1 hr1 hR5 hb5 hT5 hC5 hl2
        go_wp2_with fail
        refine hl3.mono ?_
        rintro e w6 ⟨rfl, rfl⟩
        go_wp2_with fail
        refine hr2.mono ?_
        rintro e w7 ⟨v7, rfl, hR7, hb7⟩
        obtain ⟨A7, c7, rfl, hc7, hC7⟩ := hR7.reads
        have hT7 := HT5.out.below hb7
        have hsm := same_calls (rangeP p1 0 (p1.1.length : Int)) _ rfl (by omega) A5 A7 c5 c7 w7 (Kd.C_below HC5.out hb7) hc5 hC7 hc7
        have HT7 := Aside0.mk hT7
        clear hl3 hr2 hR7 hb7 hT7 hC7 HC5
        go_wp2_with fail
        refine hsm.mono ?_
        rintro e w8 ⟨rfl, hb8⟩
        have HT8 := HT7.out.below hb8
        have hE8 := HT8.a.out HB1.out hm1
        clear hsm hb8 HT8
        go_wp2
        go_ret
        exact ⟨rfl, hE8⟩
end Go.Proofs.Ytnlbdmiflihghaa.P
