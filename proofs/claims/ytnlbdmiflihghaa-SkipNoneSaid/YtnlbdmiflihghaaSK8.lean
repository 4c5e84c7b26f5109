/- The nodes of places, one by one: an iterator. Conditions: each theorem names its own. -/
import Derived.Test.YtnlbdmiflihghaaSK7
namespace Go.Proofs.Ytnlbdmiflihghaa.P
open Go.RowKit Go.Shelf Go.Proofs.YtnlbdmiflihghaaW.PrintWords Go.Proofs.YtnlbdmiflihghaaW.PrintLast Go.Proofs.YtnlbdmiflihghaaW.PrintMore Go.Proofs.Ytnlbdmiflihghaa.SK
attribute [local go_sem] Oper.semAt_some

/-- A place below m. -/
abbrev Po (m : Nat) := { q : Nat // q < m }
/-- Which places they are. -/
def poss {m : Nat} (l : List (Po m)) : List Nat := l.map fun x => x.1
theorem poss_snoc {m : Nat} (l : List (Po m)) (x : Po m) : poss (l ++ [x]) = poss l ++ [x.1] := by
  unfold poss
  rw [List.map_append]
  rfl
theorem poss_len {m : Nat} (l : List (Po m)) : (poss l).length = l.length := List.length_map _
def nenc (b : Nat) (bs : List Nat) (x : Po bs.length) : Array Value := #[.pointer (some ⟨nd b bs (x.1 + 1), 0, none⟩)]
/-- Places within, as whole numbers. -/
theorem in_nat (n : Nat) (f t : Int) : ∃ F T : Nat, inF n f = F ∧ inT n f t = T ∧ F ≤ T ∧ T ≤ n := by
  have h1 : 0 ≤ inF n f ∧ inF n f ≤ n := by unfold inF mx mn; split <;> split <;> omega
  have h2 : inF n f ≤ inT n f t ∧ inT n f t ≤ n := by unfold inT mx mn; split <;> split <;> omega
  exact ⟨(inF n f).toNat, (inT n f t).toNat, by omega, by omega, by omega, by omega⟩
theorem abides_below {β : Type} {W W' : World} {J : β → World → Prop} {s : β} (hJ : AbidesFrom W.heap.size J) (h : J s W) (hb : Below W.heap.size W W') : J s W' :=
  hJ s W W' none h ⟨hb.os, hb.tape, hb.output, hb.size, fun k hk _ => hb.block k hk⟩ (fun r e => by cases e)
set_option maxHeartbeats 8000000 in
set_option maxRecDepth 100000 in
theorem nodes1 (b : Nat) (bs : List Nat) (σ : St) (n0 B0 B1 B2 lp : Nat) (f t : Int) (F T : Nat) (hF : inF σ.n f = F) (hT : inT σ.n f t = T) (hFT : F ≤ T) (hTl : T ≤ bs.length) (hX : Shape b bs σ) (hn0 : ∀ c, c ∈ b :: bs → c < n0)
    (J Jx : List (Po bs.length) → World → Prop) (W : World) (hS : Sk W b bs σ) (h0 : W.cell? ⟨B0, 0, none⟩ = some (.pointer (some ⟨b, 0, none⟩))) (h1 : W.cell? ⟨B1, 0, none⟩ = some (.int .i64 f)) (h2 : W.cell? ⟨B2, 0, none⟩ = some (.int .i64 t)) (hJ : AbidesFrom W.heap.size J)
    (hY : ∀ pre x W1, J pre W1 → pre.length < bs.length → YieldAt Fence.wide 5 Try.prog lp (nenc b bs x) W1 fun e W' =>
      (e = .returned (.bool true) ∧ J (pre ++ [x]) W' ∧ Below n0 W1 W') ∨ (e = .returned (.bool false) ∧ Jx (pre ++ [x]) W'))
    (hj0 : J [] W) (hWn : n0 ≤ W.heap.size) :
    Calls Try.prog 41 #[.func (.yield lp) #[] #[], .pointer (some ⟨B0, 0, none⟩), .pointer (some ⟨B1, 0, none⟩), .pointer (some ⟨B2, 0, none⟩)] W fun e W' => (∃ v, e = .returned v) ∧
      ((∃ ys, poss ys = List.range' F (T - F) ∧ J ys W') ∨ (∃ pre, (∃ r, poss pre ++ r = List.range' F (T - F)) ∧ Jx pre W')) := by
  have hw := within_of (some ⟨b, 0, none⟩) σ.n f t W (len_calls hS)
  rw [hF, hT] at hw
  have HS := Aside0.mk hS
  have HX := Aside0.mk hX
  have HJ := Aside0.mk hJ
  have HY := Aside0.mk hY
  have H0 := Aside0.mk hj0
  have HN := Aside0.mk hn0
  clear hS hX hJ hY hj0 hF hT hn0
  go_enter Try.func41, Try.ntmps41
  go_wp2_with fail
  refine hw.mono ?_
  rintro e w1 ⟨rfl, rfl⟩
  clear hw
  by_cases hq : F = T
  · subst hq
    go_wp2
    refine bodyPost_ret (results_none rfl _ _ _) rfl ?_
    exact ⟨⟨_, rfl⟩, .inl ⟨[], by simp [poss], H0.out⟩⟩
  · have hq' : ((F : Nat) : Int) ≠ (T : Nat) := by omega
    go_wp2_with fail
    refine (until_calls b bs σ F (by omega) w1 HS.out HX.out).mono ?_
    rintro e w2 ⟨rfl, hb2⟩
    have l1 := row32_len (pathN b bs σ F)
    have l2 := row32_len (pathP bs σ F)
    obtain ⟨s1, s2, hW⟩ := rows_new w1 w2 w1.heap.size hb2.size hb2 (pathN b bs σ F) (pathP bs σ F) one_pathN one_pathP
    clear hb2
    go_upto_region 3 with fail
    generalize hw3 : World.setCells _ _ 0 (row32 (pathP bs σ F)) = w3
    obtain ⟨k2, k3, _, hb4⟩ := hW w3 hw3
    clear hw3 hW s1 s2 l1 l2
    have hpos : 0 < σ.H := by
      have := (H_pos HX.out)
      rcases Nat.eq_zero_or_pos σ.H with h | h
      · have := this.mp h
        subst this
        simp at hTl
        omega
      · exact h
    have hn := k2.cell (show 0 < 32 by omega)
    unfold pathN at hn
    rw [if_pos hpos, prev0 HX.out (show F ≤ bs.length by omega)] at hn
    replace hn : w3.cell? ⟨w2.heap.size, 0, none⟩ = some (.pointer (some ⟨nd b bs F, 0, none⟩)) := hn
    obtain ⟨s, hs⟩ := next_link HX.out (show F ≤ bs.length by omega) hpos
    have hS3 := HS.out.below hb4
    have hto := hS3.to_ (nd_mem (b := b) (show F ≤ bs.length by omega)) (show 0 < 32 by omega)
    rw [hs, if_pos (by omega)] at hto
    replace hto : w3.cell? ⟨nd b bs F, 2, none⟩ = some (.pointer (some ⟨nd b bs (F + 1), 0, none⟩)) := hto
    have HJ3 := Aside0.mk (abides_below HJ.out H0.out hb4)
    have HS3 := Aside0.mk hS3
    have hz : IntKind.i64.wrap ((T : Int) - (F : Int)) = ((T - F : Nat) : Int) := by
      have := HX.out.small
      rw [show (T : Int) - (F : Int) = ((T - F : Nat) : Int) by omega]
      exact IntWalk.i64_in _ (by omega)
    clear k2 k3 hb4 hs hS3
    go_wp2
    go_loopg [9, 36] (T - F) (fun gg v9 v36 wr => ∃ (i : Nat) (pre : List (Po bs.length)), v36 = .int .i64 (i : Int) ∧ v9 = ptr (if F + i < bs.length then some (nd b bs (F + i + 1)) else none) ∧ gg = T - F - i ∧ i ≤ T - F ∧ Aside0 (poss pre = List.range' F i) ∧ Aside0 (J pre wr) ∧ Aside0 (Sk wr b bs σ))
    case atStart => exact ⟨0, [], rfl, by rw [if_pos (by omega)]; rfl, rfl, by omega, ⟨rfl⟩, HJ3, HS3⟩
    case round =>
      clear HJ3 HS3 hto hn h0 h1 h2
      obtain ⟨i, pre, rfl, rfl, hg, hi, HP, HJr, HSr⟩ := hrel
      by_cases hi2 : i = T - F
      · have hc : ¬ i < T - F := by omega
        have HI := Aside0.mk hi2
        clear hi2
        generalize ptr (if F + i < bs.length then some (nd b bs (F + i + 1)) else none) = v9x
        go_wp2
        go_end0
        exact ⟨⟨_, rfl⟩, .inl ⟨pre, by rw [HP.out, HI.out], HJr.out⟩⟩
      · have hc : decide ((i : Int) < ((T - F : Nat) : Int)) = true := decide_eq_true (by omega)
        have hc2 : i < T - F := by omega
        have hl : F + i < bs.length := by omega
        have hpl : pre.length < bs.length := by
          have := congrArg List.length HP.out
          rw [poss_len, List.length_range'] at this
          omega
        rw [if_pos hl, show ptr (some (nd b bs (F + i + 1))) = .pointer (some ⟨nd b bs (F + i + 1), 0, none⟩) from rfl]
        obtain ⟨fn, tmps, assign, body, hy, hR⟩ := HY.out pre ⟨F + i, hl⟩ wr HJr.out hpl
        simp only [nenc] at hy
        have HRo := Aside0.mk hR
        clear hR
        go_upto_region 6 with fail
        refine (wpIn_wide (n := 6)).1 ?_
        gi_wp2
        refine HRo.out.mono ?_
        rintro e W3 (⟨rfl, hJ3, hk3⟩ | ⟨rfl, hJx3⟩)
        · have hS5 := HSr.out.move (fun c hc => hk3.block c (HN.out c hc))
          obtain ⟨s5, hs5⟩ := next_link HX.out (show F + i + 1 ≤ bs.length by omega) hpos
          have hto := hS5.to_ (nd_mem (b := b) (show F + i + 1 ≤ bs.length by omega)) (show 0 < 32 by omega)
          rw [hs5] at hto
          replace hto : W3.cell? ⟨nd b bs (F + i + 1), 2, none⟩ = some (ptr (if F + i + 1 < bs.length then some (nd b bs (F + i + 1 + 1)) else none)) := hto
          have HS5 := Aside0.mk hS5
          have HJ5 := Aside0.mk hJ3
          clear hs5 hS5 hJ3 hk3
          generalize hpt : ptr (if F + i + 1 < bs.length then some (nd b bs (F + i + 1 + 1)) else none) = v9' at hto
          have HPT := Aside0.mk hpt
          clear hpt
          gi_wp2
          go_wp2
          go_roundg (T - F - (i + 1))
          case measure => omega
          case rel =>
            have hsm := HX.out.small
            have h1000 : i < 1000 := by omega
            exact ⟨i + 1, pre ++ [⟨F + i, hl⟩], congrArg (Value.int .i64) (wrap_succ i (by omega)), by rw [← HPT.out]; rfl, rfl, by omega, ⟨by rw [poss_snoc, HP.out, List.range'_1_concat]⟩, HJ5, HS5⟩
        · gi_wp2
          go_wp2
          refine bodyPost_ret (results_none rfl _ _ _) rfl ?_
          refine ⟨⟨_, rfl⟩, .inr ⟨pre ++ [⟨F + i, hl⟩], ⟨List.range' (F + (i + 1)) (T - F - (i + 1)), ?_⟩, hJx3⟩⟩
          rw [poss_snoc, HP.out, ← List.range'_1_concat, List.range'_append_1]
          congr 1
          omega
end Go.Proofs.Ytnlbdmiflihghaa.P
