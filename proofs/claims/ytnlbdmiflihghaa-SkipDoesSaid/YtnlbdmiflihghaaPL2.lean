/- The statement SkipSpans: how far apart they are that are on a level. Conditions: each theorem names its own. -/
import Derived.Test.YtnlbdmiflihghaaPL1
namespace Go.Proofs.Ytnlbdmiflihghaa.P
open Go.RowKit Go.Shelf Go.Proofs.YtnlbdmiflihghaaW.PrintWords Go.Proofs.YtnlbdmiflihghaaW.PrintLast Go.Proofs.YtnlbdmiflihghaaW.PrintMore Go.Proofs.Ytnlbdmiflihghaa.SK
attribute [local go_sem] Oper.semAt_some

def paliolaw10_SkipSpans.f (_l0 : List S39) (_a1 : Int) : Option Bool := some true
section
def sumI : List Int → Int
  | [] => 0
  | a :: l => a + sumI l
theorem sumI_nn : ∀ {l : List Int}, (∀ x, x ∈ l → 1 ≤ x) → 0 ≤ sumI l
  | [], _ => Int.le_refl _
  | a :: l, h => by
    have h1 := h a List.mem_cons_self
    have h2 := sumI_nn (fun x hx => h x (List.mem_cons_of_mem a hx))
    show 0 ≤ a + sumI l
    omega
theorem sumI_drop (l : List Int) (i : Nat) (h : i < l.length) : sumI (l.drop i) = l.getD i 0 + sumI (l.drop (i + 1)) := by
  rw [List.drop_eq_getElem_cons h, List.getD_eq_getElem?_getD, List.getElem?_eq_getElem h]
  rfl
theorem gaps_pos (i : Nat) : ∀ (l : List Nat) (d : Nat) (x : Int), x ∈ gaps i l d → 1 ≤ x
  | [], _, x, h => by cases h
  | a :: l, d, x, h => by
    unfold gaps at h
    split at h
    · rcases List.mem_cons.mp h with rfl | h
      · omega
      · exact gaps_pos i l 0 x h
    · exact gaps_pos i l (d + 1) x h
theorem gaps_sum (i : Nat) : ∀ (l : List Nat) (d : Nat), sumI (gaps i l d) ≤ ((l.length + d : Nat) : Int)
  | [], d => by show (0 : Int) ≤ _; omega
  | a :: l, d => by
    unfold gaps
    split
    · have := gaps_sum i l 0
      show ((d + 1 : Nat) : Int) + sumI (gaps i l 0) ≤ _
      rw [List.length_cons]
      omega
    · have := gaps_sum i l (d + 1)
      rw [List.length_cons]
      omega
theorem gaps_one : ∀ (l : List Nat), (∀ c, c ∈ l → 1 ≤ c) → gaps 0 l 0 = List.replicate l.length 1
  | [], _ => rfl
  | a :: l, h => by
    have h1 := h a List.mem_cons_self
    unfold gaps
    rw [if_pos (by omega), gaps_one l (fun c hc => h c (List.mem_cons_of_mem a hc))]
    rfl
theorem gaps_ne (i : Nat) : ∀ (l : List Nat) (d : Nat), (∃ c, c ∈ l ∧ i < c) → 0 < (gaps i l d).length
  | [], d, ⟨c, h, _⟩ => by cases h
  | a :: l, d, ⟨c, h, hc⟩ => by
    unfold gaps
    split
    · exact Nat.succ_pos _
    · rename_i hn
      refine gaps_ne i l (d + 1) ⟨c, ?_, hc⟩
      rcases List.mem_cons.mp h with rfl | h
      · exact absurd hc hn
      · exact h
theorem spansP_pos {p : Pl2} {l : Int} (x : Int) (h : x ∈ spansP p l) : 1 ≤ x := by
  unfold spansP at h
  split at h
  · cases h
  · exact gaps_pos _ _ _ x h
theorem spansP_sum (p : Pl2) (l : Int) : sumI (spansP p l) ≤ (p.2.length : Int) := by
  unfold spansP
  split
  · show (0 : Int) ≤ _
    omega
  · exact gaps_sum _ _ _
theorem spansP_one {p : Pl2} (h : ∀ c, c ∈ p.2 → 1 ≤ c) : spansP p 1 = List.replicate p.2.length 1 := by
  unfold spansP
  split
  · rename_i h0
    have h1 : top p.2 = 0 := by omega
    match he : p.2 with
    | [] => rfl
    | a :: l =>
      have h2 : a ≤ top p.2 := top_le (by rw [he]; exact List.mem_cons_self)
      have h3 := h a (by rw [he]; exact List.mem_cons_self)
      omega
  · exact gaps_one _ h
theorem spansP_in {p : Pl2} {l : Int} (h : 1 ≤ l) (h2 : l ≤ (top p.2 : Int)) : 0 < (spansP p l).length := by
  unfold spansP
  rw [if_neg (by omega)]
  refine gaps_ne _ _ _ ⟨top p.2, ?_, by omega⟩
  rcases top_in p.2 with h0 | h0
  · omega
  · exact h0
theorem spansP_out {p : Pl2} {l : Int} (h : l < 1 ∨ (top p.2 : Int) < l) : (spansP p l).length = 0 := by
  unfold spansP
  rw [if_pos h]
  rfl
/-- A number of a row that is read. -/
theorem at_I {w : World} {A : Option Addr} {L : List Int} (h : Kd.C (Kd.int .i64) w A L.length L) (i : Nat) (h2 : i < L.length) : ∃ ad, A = some ad ∧ w.cell? (ad.add i) = some (.int .i64 (L.getD i 0)) := by
  obtain ⟨ad, c', e, _, hK, hc0⟩ := Kd.C_get h 0 (i : Int) (by omega) (by omega)
  have hr : L.getD (i : Int).toNat 0 = L.getD i 0 := by rw [show ((i : Nat) : Int).toNat = i by omega]
  have hk : c' = [.int .i64 (L.getD (i : Int).toNat 0)] := hK
  subst hk
  have := hc0 0 _ rfl
  refine ⟨ad, e, ?_⟩
  rw [hr] at this
  have hs : (i : Int).toNat * (Kd.int .i64).sz + 0 = i := by
    show (i : Int).toNat * 1 + 0 = i
    omega
  rw [hs] at this
  exact this
end
set_option maxHeartbeats 8000000 in
set_option maxRecDepth 100000 in
theorem paliolaw10_SkipSpans.calls (A0 : Option Addr) (c0 : Nat) (l0 : List S39) (a1 : Int) (r : Bool) (w : World) (hr0 : Kd.C k39 w A0 l0.length l0) (_hc0 : l0.length ≤ c0) (h : paliolaw10_SkipSpans.f l0 a1 = some r) :
    Calls Try.prog 4 #[.slice A0 l0.length c0, .int .i64 a1] w fun e w' => e = .returned (.bool r) ∧ Below w.heap.size w w' := by
  obtain rfl : r = true := by
    injection h with h
    exact h.symm
  clear h
  have HR := Aside0.mk hr0
  clear hr0
  go_enter Try.func4, Try.ntmps4
  go_wp2_with fail
  refine (shown_calls w).mono ?_
  rintro e w1 ⟨rfl, hb1⟩
  have hm := made_calls l0 A0 c0 w1 (Kd.C_below HR.out hb1)
  go_wp2_with fail
  refine hm.mono ?_
  rintro e w2 ⟨F, rfl, hO⟩
  have hm1 : w.heap.size ≤ w1.heap.size := hb1.size
  generalize w1.heap.size = b at hO hm1 hm
  have hpl : (madeP l0).1.length ≤ 120 := Nat.le_trans (madeN_len l0 _) (Nat.min_le_right _ _)
  generalize madeP l0 = p at hO hpl
  have hp2 : p.2.length = p.1.length := hO.ls.len.2
  have hsp := ls_spans hO.ls a1
  have HB1 := Aside0.mk hb1
  have HO := Aside0.mk hO
  clear hm hO hb1 HR
  go_wp2_with fail
  refine hsp.mono ?_
  rintro e w3 ⟨v3, rfl, hR3, hb3⟩
  have hO3 := HO.out.below hb3
  obtain ⟨A3, c3, rfl, hc3, hC3⟩ := hR3.reads
  have HP := Aside0.mk (spansP_pos (p := p) (l := a1))
  have HS : Aside0 (sumI (spansP p a1) ≤ (p.1.length : Int)) := ⟨by rw [← hp2]; exact spansP_sum p a1⟩
  have HI := Aside0.mk (spansP_in (p := p) (l := a1))
  have HU := Aside0.mk (spansP_out (p := p) (l := a1))
  have HON := Aside0.mk (spansP_one hO3.ls.lv1)
  have hll : (spansP p a1).length ≤ 120 := by
    unfold spansP
    split
    · exact Nat.zero_le _
    · exact Nat.le_trans (gaps_len _ _ _) (by omega)
  generalize spansP p a1 = L at hC3 hc3 hll HP HS HI HU
  have HO3 := Aside0.mk hO3
  have HC3 := Aside0.mk hC3
  clear hsp hR3 hb3 hO3 hC3 HO
  go_wp2
  go_loopg [7, 9] L.length (fun gk v7 v9 wr => ∃ (i : Nat) (s : Int), v7 = .int .i64 s ∧ v9 = .int .i64 (i : Int) ∧ i ≤ L.length ∧ gk = L.length - i ∧ 0 ≤ s ∧ s + sumI (L.drop i) = sumI L ∧ Aside0 (Own b w1 wr b F p) ∧ Aside0 (Kd.C (Kd.int .i64) wr A3 L.length L))
  case atStart => exact ⟨0, 0, rfl, rfl, Nat.zero_le _, rfl, Int.le_refl _, by simp, HO3, HC3⟩
  case round =>
    clear HO3 HC3
    obtain ⟨i, s, rfl, rfl, hi, hgk, hs0, hss, HO, HC3⟩ := hrel
    by_cases hin : i < L.length
    · have hiz : (i : Int) < (L.length : Int) := by omega
      obtain ⟨ad3, hA3, x0⟩ := at_I HC3.out i hin
      subst hA3
      have hx := HP.out (L.getD i 0) (by rw [List.getD_eq_getElem?_getD, List.getElem?_eq_getElem hin]; exact List.getElem_mem hin)
      have hd := sumI_drop L i hin
      have hnn : 0 ≤ sumI (L.drop (i + 1)) := sumI_nn (fun x hx => HP.out x (List.mem_of_mem_drop hx))
      have hS := HS.out
      have hsw : IntKind.i64.wrap (s + L.getD i 0) = s + L.getD i 0 := IntWalk.i64_in _ (by omega)
      have hx1 : ¬ L.getD i 0 < 1 := by omega
      have hss2 : s + L.getD i 0 + sumI (L.drop (i + 1)) = sumI L := by omega
      have hs02 : 0 ≤ s + L.getD i 0 := by omega
      have HSS := Aside0.mk hss2
      have HS0 := Aside0.mk hs02
      generalize L.getD i 0 = xx at x0 hsw hx1 HSS HS0
      clear hx hd hnn hS hss2 hs02 hss hs0
      go_wp2
      go_roundg (L.length - (i + 1))
      case measure => omega
      case rel => exact ⟨i + 1, s + xx, by first | rw [hsw] | rfl, congrArg (Value.int .i64) (by first | exact wrap_succ i (by omega) | omega), by omega, rfl, HS0.out, HSS.out, HO, HC3⟩
    · have hiz : ¬ (i : Int) < (L.length : Int) := by omega
      have hsl : s ≤ (p.1.length : Int) := by
        have := HS.out
        have h2 : sumI (L.drop i) = 0 := by rw [List.drop_eq_nil_of_le (by omega)]; rfl
        omega
      have hsp := ls_spans HO.out.ls 1
      rw [HON.out, hp2] at hsp
      clear hss HC3 HS
      go_wp2_with fail
      refine hsp.mono ?_
      rintro e w5 ⟨v5, rfl, hR5, hb5⟩
      have HO5 := Aside0.mk (HO.out.below hb5)
      obtain ⟨A5, c5, rfl, hc5, hC5⟩ := hR5.reads
      rw [List.length_replicate] at hc5
      rw [List.length_replicate]
      have HC5 := Aside0.mk hC5
      clear hsp hR5 hb5 hC5 HO HON
      go_wp2
      go_loopg [11] p.1.length (fun gk v11 wr => ∃ (i : Nat), v11 = .int .i64 (i : Int) ∧ i ≤ p.1.length ∧ gk = p.1.length - i ∧ Aside0 (Own b w1 wr b F p) ∧ Aside0 (Kd.C (Kd.int .i64) wr A5 (List.replicate p.1.length (1 : Int)).length (List.replicate p.1.length 1)))
      case atStart => exact ⟨0, rfl, Nat.zero_le _, rfl, HO5, HC5⟩
      case round =>
        clear HO5 HC5
        obtain ⟨j, rfl, hj, hgk, HO, HC5⟩ := hrel
        by_cases hjn : j < p.1.length
        · have hjz : (j : Int) < (p.1.length : Int) := by omega
          obtain ⟨ad5, hA5, x0⟩ := at_I HC5.out j (by rw [List.length_replicate]; exact hjn)
          subst hA5
          rw [List.getD_eq_getElem?_getD, List.getElem?_replicate, if_pos hjn] at x0
          replace x0 : _ = some (Value.int .i64 1) := x0
          go_wp2
          go_roundg (p.1.length - (j + 1))
          case measure => omega
          case rel => exact ⟨j + 1, congrArg (Value.int .i64) (by first | exact wrap_succ j (by omega) | omega), by omega, rfl, HO, HC5⟩
        · have hjz : ¬ (j : Int) < (p.1.length : Int) := by omega
          have hlen := ls_len HO.out.ls
          have hlv := ls_levels HO.out.ls
          clear HC5
          have HE : Aside0 (Below w.heap.size w _) := ⟨HO.out.out HB1.out hm1⟩
          clear HO HB1
          by_cases h1 : a1 < 1
          · have h2 : ¬ a1 ≥ 1 := by omega
            have h2b : ¬ 1 ≤ a1 := by omega
            have hL0 := HU.out (.inl h1)
            clear HI HU
            go_wp2_with fail
            refine hlen.mono ?_
            rintro e w8 ⟨rfl, rfl⟩
            go_wp2_with fail
            refine hlen.mono ?_
            rintro e w9 ⟨rfl, rfl⟩
            go_wp2
            go_ret
            exact ⟨rfl, HE.out⟩
          · have h2 : a1 ≥ 1 := by omega
            by_cases h3 : a1 > (top p.2 : Int)
            · have h4 : ¬ a1 ≤ (top p.2 : Int) := by omega
              have hL0 := HU.out (.inr h3)
              clear HI HU
              go_wp2_with fail
              refine hlen.mono ?_
              rintro e w8 ⟨rfl, rfl⟩
              go_wp2_with fail
              refine hlen.mono ?_
              rintro e w9 ⟨rfl, rfl⟩
              go_wp2_with fail
              refine hlv.mono ?_
              rintro e w9 ⟨rfl, rfl⟩
              go_wp2_with fail
              refine hlv.mono ?_
              rintro e w9 ⟨rfl, rfl⟩
              go_wp2
              go_ret
              exact ⟨rfl, HE.out⟩
            · have h4 : a1 ≤ (top p.2 : Int) := by omega
              have hL0 := HI.out (by omega) h4
              have hL1 : (L.length : Int) > 0 := by omega
              clear HI HU
              go_wp2_with fail
              refine hlen.mono ?_
              rintro e w8 ⟨rfl, rfl⟩
              go_wp2_with fail
              refine hlen.mono ?_
              rintro e w9 ⟨rfl, rfl⟩
              go_wp2_with fail
              refine hlv.mono ?_
              rintro e w9 ⟨rfl, rfl⟩
              go_wp2_with fail
              refine hlv.mono ?_
              rintro e w9 ⟨rfl, rfl⟩
              go_wp2
              go_ret
              exact ⟨rfl, HE.out⟩
end Go.Proofs.Ytnlbdmiflihghaa.P
