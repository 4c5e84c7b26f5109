/- The law ParseCounts: a call of it answers true. Conditions: that the package's variables lie as the program lays them. -/
import Derived.Test.YtjcbbmjmhfimcaaDoorPL4
namespace Go.Proofs.YtjcbbmjmhfimcaaDoor.P
open Go.RowKit Go.Lib Go.Proofs.YtjcbbmjmhfimcaaDoorW.PrintWords Go.Proofs.YtjcbbmjmhfimcaaDoorW.PrintLast Go.Proofs.YtjcbbmjmhfimcaaDoorW.PrintMore
attribute [local go_sem] Oper.semAt_some

/-- Requests that have been fed, one behind the other. -/
structure Fed (fs : List (List ByteArray)) (r : ByteArray) : Prop where
  eq : r = mk (fs.flatMap reqL)
  ok : ∀ x ∈ fs, x.length ≤ 64 ∧ ∀ y ∈ x, y.size ≤ 512
  sz : r.size ≤ 16384
theorem fed_none : Fed [] ⟨#[]⟩ := ⟨rfl, by simp, by decide⟩
theorem fed_more {fs : List (List ByteArray)} {r : ByteArray} {x : List ByteArray} (h : Fed fs r) (h1 : x.length ≤ 64) (h2 : ∀ y ∈ x, y.size ≤ 512) (h3 : r.size + (mk (reqL x)).size ≤ 16384) : Fed (fs ++ [x]) (r ++ mk (reqL x)) := by
  refine ⟨?_, ?_, by rw [ByteArray.size_append]; exact h3⟩
  · rw [h.eq, mk_append, List.flatMap_append]
    simp
  · intro y hy
    rcases List.mem_append.1 hy with hy | hy
    · exact h.ok y hy
    · obtain rfl := List.mem_singleton.1 hy
      exact ⟨h1, h2⟩
theorem next_fed (x : List ByteArray) (t : List (List ByteArray)) (h1 : x.length ≤ 64) (h2 : ∀ y ∈ x, y.size ≤ 512) : nextB (mk ((x :: t).flatMap reqL)) false = (x, 0, mk (t.flatMap reqL), false) := by
  unfold nextB
  rw [if_neg (by simp), List.flatMap_cons, split_req x h1 h2]
  rfl
theorem next_none : nextB (mk []) false = ([], 31, mk [], false) := by decide +kernel
theorem slice_K {W : World} {x : List ByteArray} {cs : List Value} (h : (Kd.slice 9 Kd.string).K W x cs) : ∃ A c, cs = [.slice A x.length c] ∧ x.length ≤ c ∧ Kd.C Kd.string W A x.length x := by
  obtain ⟨A, c, h1, h2, h3⟩ := h
  exact ⟨A, c, h1, h2, h3⟩
theorem drop_size (fs : List (List ByteArray)) (hsz : (mk (fs.flatMap reqL)).size ≤ 100000) (j : Nat) : (mk ((fs.drop j).flatMap reqL)).size ≤ 100000 := by
  rw [mk_size] at hsz ⊢
  have : fs.flatMap reqL = (fs.take j).flatMap reqL ++ (fs.drop j).flatMap reqL := by rw [← List.flatMap_append, List.take_append_drop]
  rw [this, List.length_append] at hsz
  omega
set_option maxHeartbeats 16000000 in
set_option maxRecDepth 100000 in
theorem counts_law (l : List (List ByteArray)) (A : Option Addr) (c : Nat) (w : World) (hG : G w) (hT : Tab w) (hC : Kd.C (Kd.slice 9 Kd.string) w A l.length l) (hl0 : l.length ≤ maxLen) :
    Calls Tryd.prog 7 #[.slice A l.length c] w fun e w' => e = .returned (.bool true) ∧ Below w.heap.size w w' := by
  have hl := hl0
  have HG := Aside0.mk hG
  have HT := Aside0.mk hT
  have HC := Aside0.mk hC
  have h2 := hG.lt
  clear hG hT hC
  obtain ⟨n, hn⟩ : ∃ n, n = l.length := ⟨_, rfl⟩
  have HN := Aside0.mk hn
  rw [← hn] at hl ⊢
  clear hn
  unfold maxLen at hl
  go_enter Tryd.func7, Tryd.ntmps7
  go_wp2_with fail
  refine (shown_calls w HG.out).mono ?_
  rintro e w1 ⟨rfl, b1⟩
  have B1 := Aside0.mk b1
  clear b1
  go_wp2_with fail
  refine (new_calls w1).mono ?_
  rintro e w2 ⟨rfl, p2, b2⟩
  have hP := B1.out.size
  have hpl := Blk.lt p2
  have B2 := Aside0.mk (B1.out.trans (b2.mono B1.out.size))
  have P2 := Aside0.mk p2
  clear p2 b2 B1
  generalize w1.heap.size = p at hP P2 hpl ⊢
  have h2p : 2 < p := by omega
  go_wp2
  go_loopg [5, 6] 13 (fun gg v5 v6 wr => ∃ (i k : Nat) (fs : List (List ByteArray)) (r : ByteArray), v5 = .int .i64 k ∧ v6 = .int .i64 i ∧ i ≤ 12 ∧ 13 - i ≤ gg ∧ k ≤ 12 ∧ k ≤ i ∧ Aside0 (Fed fs r ∧ k = fs.length) ∧ Aside0 (Par wr p r false) ∧ Aside0 (Below w.heap.size w wr))
  case atStart => exact ⟨0, 0, [], ⟨#[]⟩, rfl, rfl, by omega, by omega, by omega, by omega, ⟨fed_none, rfl⟩, P2, B2⟩
  case round =>
    obtain ⟨i, k, fs, r, rfl, rfl, hi, hg, hk, hki, HF, HP, HB⟩ := hrel
    by_cases hin : i < n ∧ i < 12
    · have hi1 : (i : Int) < (n : Int) := by omega
      have hi2 : (i : Int) < 12 := by omega
      have hcl := Kd.C_below HC.out HB.out
      rw [← HN.out] at hcl
      obtain ⟨ad, cc, e, hcc, hK, hcell⟩ := Kd.C_get hcl [] (i : Int) (by omega) hi1
      cases e
      simp only [Int.toNat_natCast] at hK hcell
      obtain ⟨A3, c3, rfl, hc3, hC3⟩ := slice_K hK
      have hcell0 := hcell 0 _ rfl
      have hcell1 : wr.cell? (ad.add i) = some (.slice A3 (l.getD i []).length c3) := by
        have e1 : i * (Kd.slice 9 Kd.string).sz + 0 = i := by
          show i * 1 + 0 = i
          omega
        have h7 : wr.cell? (ad.add (i * (Kd.slice 9 Kd.string).sz + 0)) = some (.slice A3 (l.getD i []).length c3) := hcell0
        rw [e1] at h7
        exact h7
      clear hcell0 hcell hK hcc hcl
      generalize l.getD i [] = x at hcell1 hC3 hc3
      have hfl := fewL_len x
      have HFS : Aside0 (∀ y ∈ fewL x, y.size ≤ 100000) := ⟨fun y hy => by
        unfold fewL at hy
        obtain ⟨z, _, rfl⟩ := List.mem_map.1 hy
        exact Nat.le_trans (ext520_size z) (by omega)⟩
      have HC3 := Aside0.mk hC3
      have Hc3 := Aside0.mk hc3
      clear hC3 hc3
      go_wp2_with fail
      refine (few_calls x A3 c3 wr HC3.out Hc3.out).mono ?_
      rintro e w3 ⟨v3, rfl, r3, b3⟩
      have HB3 := Aside0.mk (HB.out.trans (b3.mono HB.out.size))
      have HP3 := Aside0.mk (Blk.below HP.out b3)
      obtain ⟨A4, c4, rfl, l4, d4⟩ := Kd.R_reads r3
      have D4 := Aside0.mk d4
      clear r3 b3 d4 l4
      have hmk := makeB_cases (fewL x)
      obtain ⟨m, hm⟩ : ∃ m, m = (fewL x).length := ⟨_, rfl⟩
      have HM := Aside0.mk hm
      rw [← hm]
      clear hm
      go_wp2_with fail
      rw [HM.out]
      refine (make_calls (fewL x) HFS.out (by omega) A4 c4 w3 (tab_below HT.out h2 HB3.out) (by have := HB3.out.size; omega) D4.out).mono ?_
      rintro e w4 ⟨rfl, b4⟩
      have HB4 := Aside0.mk (HB3.out.trans (b4.mono HB3.out.size))
      have HP4 := Aside0.mk (Blk.below HP3.out b4)
      clear b4
      rcases hmk with hmk | ⟨k1, k2, hmk⟩
      · rw [hmk]
        clear hmk
        go_wp2
        go_roundg (13 - (i + 1))
        case measure => omega
        case rel => exact ⟨i + 1, k, fs, r, by go_num, by go_num, by omega, by omega, by omega, by omega, HF, HP4, HB4⟩
      · rw [hmk]
        have hrl := req_len (fewL x) k1 k2
        have hfc := feed_calls p r false (mk (reqL (fewL x))) (by have := HF.out.1.sz; omega) (by rw [mk_size]; omega) w4 HP4.out
        have hFE : feedB r false (mk (reqL (fewL x))) = if 16384 < r.size + (mk (reqL (fewL x))).size then (41, r) else (0, r ++ mk (reqL (fewL x))) := by
          unfold feedB
          rw [if_neg (by simp)]
        have hmore := fun h3 => fed_more HF.out.1 k1 k2 h3
        clear hmk hrl
        generalize mk (reqL (fewL x)) = a at hfc hFE hmore ⊢
        go_wp2_with fail
        refine hfc.mono ?_
        rintro e w5 ⟨rfl, p5, g5⟩
        have HB5 := Aside0.mk (below_grown HB4.out g5 hP)
        have HMO := Aside0.mk hmore
        by_cases h16 : 16384 < r.size + a.size
        · rw [hFE, if_pos h16] at p5 ⊢
          have HP5 := Aside0.mk p5
          clear p5 g5 hfc hFE hmore
          go_wp2
          go_roundg (13 - (i + 1))
          case measure => omega
          case rel => exact ⟨i + 1, k, fs, r, by go_num, by go_num, by omega, by omega, by omega, by omega, HF, HP5, HB5⟩
        · rw [hFE, if_neg h16] at p5 ⊢
          have HP5 := Aside0.mk p5
          have hmo := hmore (by omega)
          have HMO := Aside0.mk hmo
          clear p5 g5 hfc hFE hmore hmo
          go_wp2
          go_roundg (13 - (i + 1))
          case measure => omega
          case rel => exact ⟨i + 1, k + 1, fs ++ [fewL x], r ++ a, by go_num, by go_num, by omega, by omega, by omega, by omega, ⟨HMO.out, by rw [List.length_append, List.length_singleton, HF.out.2]⟩, HP5, HB5⟩
    · have hend : (i : Int) < (n : Int) → ¬ (i : Int) < 12 := by omega
      by_cases h5 : i < n
      · have hi1 : (i : Int) < (n : Int) := by omega
        have hi2 : ¬ (i : Int) < 12 := by omega
        clear hend
        go_wp2
        have hr := HF.out.1.eq
        have hok := HF.out.1.ok
        have HOK := Aside0.mk hok
        have HSZ : Aside0 ((mk (fs.flatMap reqL)).size ≤ 100000) := ⟨by rw [← hr]; have := HF.out.1.sz; omega⟩
        have hkf := HF.out.2
        rw [hr] at HP
        have HKF := Aside0.mk hkf
        clear hr hok hkf HF
        go_loopg [9] k (fun gg v9 wr => ∃ (j : Nat), v9 = .int .i64 j ∧ j ≤ k ∧ k - j ≤ gg ∧ Aside0 (Par wr p (mk ((fs.drop j).flatMap reqL)) false) ∧ Aside0 (Below w.heap.size w wr))
        case atStart => exact ⟨0, rfl, by omega, by omega, HP, HB⟩
        case round =>
          obtain ⟨j, rfl, hj, hg2, HP2, HB2⟩ := hrel
          have hbig : (mk ((fs.drop j).flatMap reqL)).size ≤ 100000 := drop_size fs HSZ.out j
          by_cases hjk : j < k
          · have hjz : (j : Int) < (k : Int) := by omega
            have hjl : j < fs.length := by have := HKF.out; omega
            have hd := List.drop_eq_getElem_cons hjl
            have hx := HOK.out _ (List.getElem_mem hjl)
            have hnx := next_calls p (mk ((fs.drop j).flatMap reqL)) false hbig wr (HG.out.below HB2.out) HP2.out
            rw [hd, next_fed _ _ hx.1 hx.2] at hnx
            clear hd hbig
            go_wp2_with fail
            refine hnx.mono ?_
            rintro e w3 ⟨v3, rfl, r3, p3, g3⟩
            have HP3 := Aside0.mk p3
            have HB3 := Aside0.mk (below_grown HB2.out g3 hP)
            obtain ⟨A3, c3, rfl⟩ := Kd.R_slice r3
            clear p3 g3 r3 hnx
            generalize (fs[j]).length = m3
            go_wp2
            go_roundg (k - (j + 1))
            case measure => omega
            case rel => exact ⟨j + 1, by go_num, by omega, by omega, HP3, HB3⟩
          · obtain rfl : j = k := by omega
            have hjz : ¬ (j : Int) < (j : Int) := by omega
            have hnil : fs.drop j = [] := List.drop_of_length_le (by have := HKF.out; omega)
            rw [hnil, List.flatMap_nil] at HP2
            have hnx := next_calls p (mk []) false (by decide) wr (HG.out.below HB2.out) HP2.out
            rw [next_none] at hnx
            clear hnil hbig
            go_wp2_with fail
            refine hnx.mono ?_
            rintro e w3 ⟨v3, rfl, r3, p3, g3⟩
            have HP3 := Aside0.mk p3
            have HB3 := Aside0.mk (below_grown HB2.out g3 hP)
            obtain ⟨A3, c3, rfl⟩ := Kd.R_slice r3
            clear p3 g3 r3 hnx
            go_wp2_with fail
            refine (left_calls p (mk []) false _ HP3.out).mono ?_
            rintro e wx ⟨rfl, rfl⟩
            rw [show ((mk []).size : Int) = 0 from rfl]
            go_wp2
            go_ret
            exact ⟨by simp, HB3.out⟩
      · have hi1 : ¬ (i : Int) < (n : Int) := by omega
        clear hend
        go_wp2
        have hr := HF.out.1.eq
        have hok := HF.out.1.ok
        have HOK := Aside0.mk hok
        have HSZ : Aside0 ((mk (fs.flatMap reqL)).size ≤ 100000) := ⟨by rw [← hr]; have := HF.out.1.sz; omega⟩
        have hkf := HF.out.2
        rw [hr] at HP
        have HKF := Aside0.mk hkf
        clear hr hok hkf HF
        go_loopg [9] k (fun gg v9 wr => ∃ (j : Nat), v9 = .int .i64 j ∧ j ≤ k ∧ k - j ≤ gg ∧ Aside0 (Par wr p (mk ((fs.drop j).flatMap reqL)) false) ∧ Aside0 (Below w.heap.size w wr))
        case atStart => exact ⟨0, rfl, by omega, by omega, HP, HB⟩
        case round =>
          obtain ⟨j, rfl, hj, hg2, HP2, HB2⟩ := hrel
          have hbig : (mk ((fs.drop j).flatMap reqL)).size ≤ 100000 := drop_size fs HSZ.out j
          by_cases hjk : j < k
          · have hjz : (j : Int) < (k : Int) := by omega
            have hjl : j < fs.length := by have := HKF.out; omega
            have hd := List.drop_eq_getElem_cons hjl
            have hx := HOK.out _ (List.getElem_mem hjl)
            have hnx := next_calls p (mk ((fs.drop j).flatMap reqL)) false hbig wr (HG.out.below HB2.out) HP2.out
            rw [hd, next_fed _ _ hx.1 hx.2] at hnx
            clear hd hbig
            go_wp2_with fail
            refine hnx.mono ?_
            rintro e w3 ⟨v3, rfl, r3, p3, g3⟩
            have HP3 := Aside0.mk p3
            have HB3 := Aside0.mk (below_grown HB2.out g3 hP)
            obtain ⟨A3, c3, rfl⟩ := Kd.R_slice r3
            clear p3 g3 r3 hnx
            generalize (fs[j]).length = m3
            go_wp2
            go_roundg (k - (j + 1))
            case measure => omega
            case rel => exact ⟨j + 1, by go_num, by omega, by omega, HP3, HB3⟩
          · obtain rfl : j = k := by omega
            have hjz : ¬ (j : Int) < (j : Int) := by omega
            have hnil : fs.drop j = [] := List.drop_of_length_le (by have := HKF.out; omega)
            rw [hnil, List.flatMap_nil] at HP2
            have hnx := next_calls p (mk []) false (by decide) wr (HG.out.below HB2.out) HP2.out
            rw [next_none] at hnx
            clear hnil hbig
            go_wp2_with fail
            refine hnx.mono ?_
            rintro e w3 ⟨v3, rfl, r3, p3, g3⟩
            have HP3 := Aside0.mk p3
            have HB3 := Aside0.mk (below_grown HB2.out g3 hP)
            obtain ⟨A3, c3, rfl⟩ := Kd.R_slice r3
            clear p3 g3 r3 hnx
            go_wp2_with fail
            refine (left_calls p (mk []) false _ HP3.out).mono ?_
            rintro e wx ⟨rfl, rfl⟩
            rw [show ((mk []).size : Int) = 0 from rfl]
            go_wp2
            go_ret
            exact ⟨by simp, HB3.out⟩
end Go.Proofs.YtjcbbmjmhfimcaaDoor.P
