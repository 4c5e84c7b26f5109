/- The law ParseBack: a call of it answers true. Conditions: that the package's variables lie as the program lays them. -/
import Derived.Test.YtjcbbmjmhfimcaaDoorPK8
import Derived.Test.YtjcbbmjmhfimcaaDoorPureBack
namespace Go.Proofs.YtjcbbmjmhfimcaaDoor.P
open Go.RowKit Go.Lib Go.Proofs.YtjcbbmjmhfimcaaDoorW.PrintWords Go.Proofs.YtjcbbmjmhfimcaaDoorW.PrintLast Go.Proofs.YtjcbbmjmhfimcaaDoorW.PrintMore
attribute [local go_sem] Oper.semAt_some

def ext520 (x : ByteArray) : ByteArray := x.extract 0 ((mn (x.size : Int) 520) : Int).toNat
def fewL (l : List ByteArray) : List ByteArray := (l.take 70).map ext520
theorem ext520_size (x : ByteArray) : (ext520 x).size ≤ 520 := by
  unfold ext520 mn
  rw [ByteArray.size_extract]
  split <;> omega
theorem fewL_len (l : List ByteArray) : (fewL l).length ≤ 70 := by
  unfold fewL
  rw [List.length_map, List.length_take]
  omega
theorem few_l0 (l : List ByteArray) : ∀ (d j k : Nat), j + d = min l.length 70 → d < k → paliolaw04_Few.l0 k l ((l.take j).map ext520) (j : Int) = some (fewL l) := by
  intro d
  induction d with
  | zero =>
    intro j k hj hk
    obtain ⟨k, rfl⟩ : ∃ m, k = m + 1 := ⟨k - 1, by omega⟩
    have he : (l.take j).map ext520 = fewL l := by
      unfold fewL
      rcases Nat.lt_or_ge l.length 70 with h | h
      · rw [List.take_of_length_le (by omega), List.take_of_length_le (by omega)]
      · rw [show j = 70 by omega]
    simp only [paliolaw04_Few.l0]
    by_cases h1 : (j : Int) < (l.length : Int)
    · rw [if_pos h1, if_neg (by omega), he]
    · rw [if_neg h1, he]
  | succ d ih =>
    intro j k hj hk
    obtain ⟨k, rfl⟩ : ∃ m, k = m + 1 := ⟨k - 1, by omega⟩
    have hjl : j < l.length := by omega
    have hn := ih (j + 1) k (by omega) (by omega)
    rw [List.take_succ_eq_append_getElem hjl, List.map_append] at hn
    simp only [paliolaw04_Few.l0]
    rw [if_pos (by omega), if_pos (by omega), if_pos (by omega), rd_get hjl, wr1 (by omega)]
    have hm : 0 ≤ mn ((l[j]).size : Int) 520 ∧ mn ((l[j]).size : Int) 520 ≤ ((l[j]).size : Int) := by unfold mn; split <;> omega
    rw [if_pos hm.1, if_pos hm.2, if_pos (by rw [List.length_map, List.length_take]; omega)]
    exact hn
theorem few_f (l : List ByteArray) : paliolaw04_Few.f (min l.length 70 + 1) l = some (fewL l) := few_l0 l (min l.length 70) 0 _ (by omega) (by omega)
theorem few_calls (l : List ByteArray) (A : Option Addr) (c : Nat) (w : World) (hC : Kd.C Kd.string w A l.length l) (hc : l.length ≤ c) :
    Calls Tryd.prog 18 #[.slice A l.length c] w fun e w' => ∃ v, e = .returned v ∧ Kd.R Kd.string 9 w' w.heap.size (fun _ => True) v (fewL l) ∧ Below w.heap.size w w' :=
  paliolaw04_Few.calls (min l.length 70 + 1) A c l (fewL l) w hC hc (few_f l)
theorem line_len (c : UInt8) (n : Nat) (hn : n ≤ 100000) : (lineL c n).length ≤ 23 := by
  have := text_len (n : Int) (by omega) (by omega)
  rw [size_eq, text_list] at this
  unfold lineL
  simp
  omega
theorem req_len (l : List ByteArray) (h0 : l.length ≤ 64) (h : ∀ x ∈ l, x.size ≤ 512) : (reqL l).length ≤ 40000 := by
  have key : ∀ t : List ByteArray, (∀ x ∈ t, x.size ≤ 512) → (t.flatMap argL).length ≤ 540 * t.length := by
    intro t ht
    induction t with
    | nil => simp
    | cons x t ih =>
      rw [List.flatMap_cons, List.length_append, List.length_cons]
      have h1 := ih (fun y hy => ht y (List.mem_cons_of_mem _ hy))
      have h2 := ht x List.mem_cons_self
      have h3 := line_len 36 x.size (by omega)
      have h4 : (argL x).length = (lineL 36 x.size).length + (x.size + 2) := by
        unfold argL
        rw [List.length_append, List.length_append, ← size_eq]
        rfl
      omega
  have h1 := key l h
  have h2 := line_len 42 l.length (by omega)
  unfold reqL
  rw [List.length_append]
  omega
set_option maxHeartbeats 16000000 in
set_option maxRecDepth 100000 in
theorem back_law (l : List ByteArray) (A : Option Addr) (c : Nat) (s : ByteArray) (hs : s.size ≤ 140737488351232) (w : World) (hG : G w) (hT : Tab w) (hC : Kd.C Kd.string w A l.length l) (hc : l.length ≤ c) :
    Calls Tryd.prog 6 #[.slice A l.length c, .string s] w fun e w' => e = .returned (.bool true) ∧ Below w.heap.size w w' := by
  have HG := Aside0.mk hG
  have HT := Aside0.mk hT
  have HC := Aside0.mk hC
  have HCc := Aside0.mk hc
  have h2 := hG.lt
  have hfl := fewL_len l
  have hfs : ∀ x ∈ fewL l, x.size ≤ 100000 := fun x hx => by
    unfold fewL at hx
    obtain ⟨y, _, rfl⟩ := List.mem_map.1 hx
    exact Nat.le_trans (ext520_size y) (by omega)
  have HFS := Aside0.mk hfs
  clear hG hT hC hc hfs
  obtain ⟨n, hn⟩ : ∃ n, n = l.length := ⟨_, rfl⟩
  have HN := Aside0.mk hn
  rw [← hn]
  clear hn
  go_enter Tryd.func6, Tryd.ntmps6
  go_wp2_with fail
  refine (shown_calls w HG.out).mono ?_
  rintro e w1 ⟨rfl, b1⟩
  have B1 := Aside0.mk b1
  clear b1
  go_wp2_with fail
  rw [HN.out]
  refine (few_calls l A c w1 (Kd.C_below HC.out B1.out) HCc.out).mono ?_
  rintro e w2 ⟨v2, rfl, r2, b2⟩
  have B2 := Aside0.mk (B1.out.trans (b2.mono B1.out.size))
  obtain ⟨A2, c2, rfl, l2, d2⟩ := Kd.R_reads r2
  have D2 := Aside0.mk d2
  have L2 := Aside0.mk l2
  clear r2 b2 l2 d2
  have hmk := makeB_cases (fewL l)
  obtain ⟨m, hm⟩ : ∃ m, m = (fewL l).length := ⟨_, rfl⟩
  have HM := Aside0.mk hm
  rw [← hm]
  clear hm
  go_wp2_with fail
  rw [HM.out]
  refine (make_calls (fewL l) HFS.out (by omega) A2 c2 w2 (tab_below HT.out h2 B2.out) (by have := B2.out.size; omega) D2.out).mono ?_
  rintro e w3 ⟨rfl, b3⟩
  have B3 := Aside0.mk (B2.out.trans (b3.mono B2.out.size))
  have D3 := Aside0.mk (Kd.C_below D2.out b3)
  clear b3
  rcases hmk with hmk | ⟨k1, k2, hmk⟩
  · rw [hmk]
    clear hmk
    go_wp2
    go_ret
    exact ⟨rfl, B3.out⟩
  · rw [hmk]
    have hrl := req_len (fewL l) k1 k2
    have hsz : (mk (reqL (fewL l))).size ≤ 40000 := by rw [mk_size]; exact hrl
    have hspl := split_req (fewL l) k1 k2
    have hsp2 : ∀ t : ByteArray, splitB (mk (reqL (fewL l)) ++ t) = (fewL l, 0, t) := fun t => by
      rw [← mk_of t, mk_append]
      exact hspl _
    have HSP := Aside0.mk hsp2
    have hcs : (s.extract 0 (min (s.size : Int) 1000).toNat).size ≤ 1000 := by rw [ByteArray.size_extract]; omega
    have hsz0 : (s.size : Int) ≤ 140737488351232 := by omega
    clear hmk hrl hspl hsp2 k1 k2
    generalize mk (reqL (fewL l)) = a at hsz HSP ⊢
    have haz : (a.size : Int) ≤ 40000 := by omega
    go_wp2_with fail
    generalize s.extract 0 (min (s.size : Int) 1000).toNat = t at hcs ⊢
    have hcall := split_calls (a ++ t) (by rw [ByteArray.size_append]; omega) w3 (HG.out.below B3.out)
    unfold SplitEnd at hcall
    rw [HSP.out t] at hcall
    refine hcall.mono ?_
    rintro e w4 ⟨v4, rfl, r4, b4⟩
    have B4 := Aside0.mk (B3.out.trans (b4.mono B3.out.size))
    obtain ⟨A4, c4, rfl, l4, d4⟩ := Kd.R_reads r4
    have D4 := Aside0.mk d4
    have L4 := Aside0.mk l4
    clear r4 b4 l4 d4 hcall
    go_wp2_with fail
    refine (few_calls l A c w4 (Kd.C_below HC.out B4.out) HCc.out).mono ?_
    rintro e w5 ⟨v5, rfl, r5, b5⟩
    have B5 := Aside0.mk (B4.out.trans (b5.mono B4.out.size))
    have D5 := Aside0.mk (Kd.C_below D4.out b5)
    obtain ⟨A5, c5, rfl, l5, d5⟩ := Kd.R_reads r5
    have D55 := Aside0.mk d5
    have L5 := Aside0.mk l5
    clear r5 b5 l5 d5
    go_wp2_with fail
    refine (texts_calls (fewL l) (fewL l) (by omega) A4 c4 A5 c5 w5 D5.out L4.out D55.out L5.out).mono ?_
    rintro e w6 ⟨rfl, b6⟩
    have B6 := Aside0.mk (B5.out.trans (b6.mono B5.out.size))
    rw [decide_eq_true rfl]
    clear b6
    go_wp2
    go_ret
    exact ⟨by simp, B6.out⟩
end Go.Proofs.YtjcbbmjmhfimcaaDoor.P
