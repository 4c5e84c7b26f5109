/- The nodes of places, one by one: an iterator. Conditions: each theorem names its own. -/
import Derived.Test.YtnlbdmiflihghaaSK7
namespace Go.Proofs.Ytnlbdmiflihghaa.P
open Go.RowKit Go.Shelf Go.Proofs.YtnlbdmiflihghaaW.PrintWords Go.Proofs.YtnlbdmiflihghaaW.PrintLast Go.Proofs.YtnlbdmiflihghaaW.PrintMore Go.Proofs.Ytnlbdmiflihghaa.SK
attribute [local go_sem] Oper.semAt_some

/-- A place below m. -/
abbrev Po (m : Nat) := { q : Nat // q < m }
/-- Which places they are. -/
def poss {m : Nat} (l : List (Po m)) : List Nat := l.map fun x => x.1
theorem poss_snoc {m : Nat} (l : List (Po m)) (x : Po m) : poss (l ++ [x]) = poss l ++ [x.1] := by
  unfold poss
  rw [List.map_append]
  rfl
theorem poss_len {m : Nat} (l : List (Po m)) : (poss l).length = l.length := List.length_map _
def nenc (b : Nat) (bs : List Nat) (x : Po bs.length) : Array Value := #[.pointer (some ⟨nd b bs (x.1 + 1), 0, none⟩)]
/-- Places within, as whole numbers. -/
theorem in_nat (n : Nat) (f t : Int) : ∃ F T : Nat, inF n f = F ∧ inT n f t = T ∧ F ≤ T ∧ T ≤ n := by
  have h1 : 0 ≤ inF n f ∧ inF n f ≤ n := by unfold inF mx mn; split <;> split <;> omega
  have h2 : inF n f ≤ inT n f t ∧ inT n f t ≤ n := by unfold inT mx mn; split <;> split <;> omega
  exact ⟨(inF n f).toNat, (inT n f t).toNat, by omega, by omega, by omega, by omega⟩
theorem abides_below {β : Type} {W W' : World} {J : β → World → Prop} {s : β} (hJ : AbidesFrom W.heap.size J) (h : J s W) (hb : Below W.heap.size W W') : J s W' :=
  hJ s W W' none h ⟨hb.os, hb.tape, hb.output, hb.size, fun k hk _ => hb.block k hk⟩ (fun r e => by cases e)
set_option maxHeartbeats 8000000 in
set_option maxRecDepth 100000 in
theorem nodes1 (b : Nat) (bs : List Nat) (σ : St) (n0 B0 B1 B2 lp : Nat) (f t : Int) (F T : Nat) (hF : inF σ.n f = F) (hT : inT σ.n f t = T) (hFT : F ≤ T) (hTl : T ≤ bs.length) (hX : Shape b bs σ) (hn0 : ∀ c, c ∈ b :: bs → c < n0)
    (J Jx : List (Po bs.length) → World → Prop) (W : World) (hS : Sk W b bs σ) (h0 : W.cell? ⟨B0, 0, none⟩ = some (.pointer (some ⟨b, 0, none⟩))) (h1 : W.cell? ⟨B1, 0, none⟩ = some (.int .i64 f)) (h2 : W.cell? ⟨B2, 0, none⟩ = some (.int .i64 t)) (hJ : AbidesFrom W.heap.size J)
    (hY : ∀ pre x W1, J pre W1 → pre.length < bs.length → YieldAt Fence.wide 5 Try.prog lp (nenc b bs x) W1 fun e W' =>
      (e = .returned (.bool true) ∧ J (pre ++ [x]) W' ∧ Below n0 W1 W') ∨ (e = .returned (.bool false) ∧ Jx (pre ++ [x]) W'))
    (hj0 : J [] W) (hWn : n0 ≤ W.heap.size) :
    Calls Try.prog 41 #[.func (.yield lp) #[] #[], .pointer (some ⟨B0, 0, none⟩), .pointer (some ⟨B1, 0, none⟩), .pointer (some ⟨B2, 0, none⟩)] W fun e W' => (∃ v, e = .returned v) ∧
      ((∃ ys, poss ys = List.range' F (T - F) ∧ J ys W') ∨ (∃ pre, (∃ r, poss pre ++ r = List.range' F (T - F)) ∧ Jx pre W')) := by
  have hw := within_of (some ⟨b, 0, none⟩) σ.n f t W (len_calls hS)
  rw [hF, hT] at hw
  have HS := Aside0.mk hS
  have HX := Aside0.mk hX
  have HJ := Aside0.mk hJ
  have HY := Aside0.mk hY
  have H0 := Aside0.mk hj0
  have HN := Aside0.mk hn0
  clear hS hX hJ hY hj0 hF hT hn0
  go_enter Try.func41, Try.ntmps41
  go_wp2_with fail
  refine hw.mono ?_
  rintro e w1 ⟨rfl, rfl⟩
  clear hw
  by_cases hq : F = T
  · subst hq
    go_wp2
    refine bodyPost_ret (results_none rfl _ _ _) rfl ?_
    exact ⟨⟨_, rfl⟩, .inl ⟨[], by simp [poss], H0.out⟩⟩
  · have hq' : ((F : Nat) : Int) ≠ (T : Nat) := by omega
    go_wp2_with fail
    refine (until_calls b bs σ F (by omega) w1 HS.out HX.out).mono ?_
    rintro e w2 ⟨rfl, hb2⟩
    have l1 := row32_len (pathN b bs σ F)
    have l2 := row32_len (pathP bs σ F)
    obtain ⟨s1, s2, hW⟩ := rows_new w1 w2 w1.heap.size hb2.size hb2 (pathN b bs σ F) (pathP bs σ F) one_pathN one_pathP
    clear hb2
    go_upto_region 3 with fail
    generalize hw3 : World.setCells _ _ 0 (row32 (pathP bs σ F)) = w3
    obtain ⟨k2, k3, _, hb4⟩ := hW w3 hw3
    clear hw3 hW s1 s2 l1 l2
    have hpos : 0 < σ.H := by
      have := (H_pos HX.out)
      rcases Nat.eq_zero_or_pos σ.H with h | h
      · have := this.mp h
        subst this
        simp at hTl
        omega
      · exact h
    have hn := k2.cell (show 0 < 32 by omega)
    unfold pathN at hn
    rw [if_pos hpos, prev0 HX.out (show F ≤ bs.length by omega)] at hn
    replace hn : w3.cell? ⟨w2.heap.size, 0, none⟩ = some (.pointer (some ⟨nd b bs F, 0, none⟩)) := hn
    obtain ⟨s, hs⟩ := next_link HX.out (show F ≤ bs.length by omega) hpos
    have hS3 := HS.out.below hb4
    have hto := hS3.to_ (nd_mem (b := b) (show F ≤ bs.length by omega)) (show 0 < 32 by omega)
    rw [hs, if_pos (by omega)] at hto
    replace hto : w3.cell? ⟨nd b bs F, 2, none⟩ = some (.pointer (some ⟨nd b bs (F + 1), 0, none⟩)) := hto
    have HJ3 := Aside0.mk (abides_below HJ.out H0.out hb4)
    have HS3 := Aside0.mk hS3
    have hz : IntKind.i64.wrap ((T : Int) - (F : Int)) = ((T - F : Nat) : Int) := by
      have := HX.out.small
      rw [show (T : Int) - (F : Int) = ((T - F : Nat) : Int) by omega]
      exact IntWalk.i64_in _ (by omega)
    clear k2 k3 hb4 hs hS3
    go_wp2
    go_loopg [9, 36] (T - F) (fun gg v9 v36 wr => ∃ (i : Nat) (pre : List (Po bs.length)), v36 = .int .i64 (i : Int) ∧ v9 = ptr (if F + i < bs.length then some (nd b bs (F + i + 1)) else none) ∧ gg = T - F - i ∧ i ≤ T - F ∧ Aside0 (poss pre = List.range' F i) ∧ Aside0 (J pre wr) ∧ Aside0 (Sk wr b bs σ))
    case atStart => exact ⟨0, [], rfl, by rw [if_pos (by omega)]; rfl, rfl, by omega, ⟨rfl⟩, HJ3, HS3⟩
    case round =>
      clear HJ3 HS3 hto hn h0 h1 h2
      obtain ⟨i, pre, rfl, rfl, hg, hi, HP, HJr, HSr⟩ := hrel
      by_cases hi2 : i = T - F
      · have hc : ¬ i < T - F := by omega
        have HI := Aside0.mk hi2
        clear hi2
        generalize ptr (if F + i < bs.length then some (nd b bs (F + i + 1)) else none) = v9x
        go_wp2
        go_end0
        exact ⟨⟨_, rfl⟩, .inl ⟨pre, by rw [HP.out, HI.out], HJr.out⟩⟩
      · have hc : decide ((i : Int) < ((T - F : Nat) : Int)) = true := decide_eq_true (by omega)
        have hc2 : i < T - F := by omega
        have hl : F + i < bs.length := by omega
        have hpl : pre.length < bs.length := by
          have := congrArg List.length HP.out
          rw [poss_len, List.length_range'] at this
          omega
        rw [if_pos hl, show ptr (some (nd b bs (F + i + 1))) = .pointer (some ⟨nd b bs (F + i + 1), 0, none⟩) from rfl]
        obtain ⟨fn, tmps, assign, body, hy, hR⟩ := HY.out pre ⟨F + i, hl⟩ wr HJr.out hpl
        simp only [nenc] at hy
        have HRo := Aside0.mk hR
        clear hR
        go_upto_region 6 with fail
        refine (wpIn_wide (n := 6)).1 ?_
        gi_wp2
        refine HRo.out.mono ?_
        rintro e W3 (⟨rfl, hJ3, hk3⟩ | ⟨rfl, hJx3⟩)
        · have hS5 := HSr.out.move (fun c hc => hk3.block c (HN.out c hc))
          obtain ⟨s5, hs5⟩ := next_link HX.out (show F + i + 1 ≤ bs.length by omega) hpos
          have hto := hS5.to_ (nd_mem (b := b) (show F + i + 1 ≤ bs.length by omega)) (show 0 < 32 by omega)
          rw [hs5] at hto
          replace hto : W3.cell? ⟨nd b bs (F + i + 1), 2, none⟩ = some (ptr (if F + i + 1 < bs.length then some (nd b bs (F + i + 1 + 1)) else none)) := hto
          have HS5 := Aside0.mk hS5
          have HJ5 := Aside0.mk hJ3
          clear hs5 hS5 hJ3 hk3
          generalize hpt : ptr (if F + i + 1 < bs.length then some (nd b bs (F + i + 1 + 1)) else none) = v9' at hto
          have HPT := Aside0.mk hpt
          clear hpt
          gi_wp2
          go_wp2
          go_roundg (T - F - (i + 1))
          case measure => omega
          case rel =>
            have hsm := HX.out.small
            have h1000 : i < 1000 := by omega
            exact ⟨i + 1, pre ++ [⟨F + i, hl⟩], congrArg (Value.int .i64) (wrap_succ i (by omega)), by rw [← HPT.out]; rfl, rfl, by omega, ⟨by rw [poss_snoc, HP.out, List.range'_1_concat]⟩, HJ5, HS5⟩
        · gi_wp2
          go_wp2
          refine bodyPost_ret (results_none rfl _ _ _) rfl ?_
          refine ⟨⟨_, rfl⟩, .inr ⟨pre ++ [⟨F + i, hl⟩], ⟨List.range' (F + (i + 1)) (T - F - (i + 1)), ?_⟩, hJx3⟩⟩
          rw [poss_snoc, HP.out, ← List.range'_1_concat, List.range'_append_1]
          congr 1
          omega
end Go.Proofs.Ytnlbdmiflihghaa.P

/- The entry of a place. Conditions: each theorem names its own. -/
namespace Go.Proofs.Ytnlbdmiflihghaa.P
open Go.RowKit Go.Shelf Go.Proofs.YtnlbdmiflihghaaW.PrintWords Go.Proofs.YtnlbdmiflihghaaW.PrintLast Go.Proofs.YtnlbdmiflihghaaW.PrintMore Go.Proofs.Ytnlbdmiflihghaa.SK
attribute [local go_sem] Oper.semAt_some

/-- What nodes' value promises a loop over it. -/
theorem nodes_stops (b : Nat) (bs : List Nat) (σ : St) (n0 B0 B1 B2 : Nat) (f t : Int) (F T : Nat) (hF : inF σ.n f = F) (hT : inT σ.n f t = T) (hFT : F ≤ T) (hTl : T ≤ bs.length) (hX : Shape b bs σ) (hn0 : ∀ c, c ∈ b :: bs → c < n0)
    (w : World) (hS : Sk w b bs σ) (h0 : w.cell? ⟨B0, 0, none⟩ = some (.pointer (some ⟨b, 0, none⟩))) (h1 : w.cell? ⟨B1, 0, none⟩ = some (.int .i64 f)) (h2 : w.cell? ⟨B2, 0, none⟩ = some (.int .i64 t)) (hB : B0 < w.heap.size ∧ B1 < w.heap.size ∧ B2 < w.heap.size) (hwn : n0 ≤ w.heap.size) :
    SeqStopsK Fence.wide 6 Try.prog 41 #[.pointer (some ⟨B0, 0, none⟩), .pointer (some ⟨B1, 0, none⟩), .pointer (some ⟨B2, 0, none⟩)] (nenc b bs) (Below n0) (fun ys => poss ys = List.range' F (T - F)) (fun pre => ∃ r, poss pre ++ r = List.range' F (T - F)) bs.length w := fun lp J Jx W hW hJ _ hY hj0 =>
  callsIn_wide.2 (nodes1 b bs σ n0 B0 B1 B2 lp f t F T hF hT hFT hTl hX hn0 J Jx W (hS.below hW) ((hW.cell (p := ⟨B0, 0, none⟩) hB.1).trans h0) ((hW.cell (p := ⟨B1, 0, none⟩) hB.2.1).trans h1) ((hW.cell (p := ⟨B2, 0, none⟩) hB.2.2).trans h2) hJ hY hj0 (Nat.le_trans hwn hW.size))
theorem nodes_calls (p : Option Addr) (f t : Int) (w : World) : Calls Try.prog 30 #[.pointer p, .int .i64 f, .int .i64 t] w fun e w' =>
    e = .returned (.func (.func 41) #[] #[.pointer (some ⟨w.heap.size, 0, none⟩), .pointer (some ⟨w.heap.size + 1, 0, none⟩), .pointer (some ⟨w.heap.size + 1 + 1, 0, none⟩)]) ∧ w' = ((w.alloc (.cells #[.pointer p] 24)).alloc (.cells #[.int .i64 f] 3)).alloc (.cells #[.int .i64 t] 3) := by
  go_enter Try.func30, Try.ntmps30
  go_wp2
  go_ret
  exact ⟨rfl, rfl⟩
theorem loadVar28 {w : World} {B : Nat} {s : ByteArray} {n : Int} (h0 : w.cell? ⟨B, 0, none⟩ = some (.string s)) (h1 : w.cell? ⟨B, 1, none⟩ = some (.int .i64 n)) : (loadVar 28 ⟨B, 0, none⟩).run Try.prog w = .ok (.agg #[.string s, .int .i64 n]) w := by
  refine loadVar_agg (n := 2) (by kernel_rfl) (by kernel_rfl) ?_
  refine (run_loadCellsFrom (P := Try.prog) (w := w) ⟨B, 0, none⟩ (fun j => if j = 0 then .string s else .int .i64 n) 2 0 #[] (fun j hj => ?_)).trans (by rfl)
  rw [Addr.add_mid]
  have : j = 0 ∨ j = 1 := by omega
  rcases this with rfl | rfl
  · exact h0
  · exact h1
theorem loadVar4 {w : World} {B : Nat} {o : Bool} (h0 : w.cell? ⟨B, 0, none⟩ = some (.bool o)) : (loadVar 4 ⟨B, 0, none⟩).run Try.prog w = .ok (.bool o) w := by
  have hi : (isAgg 4).run Try.prog w = .ok false w := by kernel_rfl
  simp [loadVar, hi, go_sem, h0]
theorem results13 {tmps : Array Value} {W : World} {a c : Nat} {s : ByteArray} {n : Int} {o : Bool} (h4 : tmps.getD 4 undef = .pointer (some ⟨a, 0, none⟩)) (h5 : tmps.getD 5 undef = .pointer (some ⟨c, 0, none⟩)) (c0 : W.cell? ⟨a, 0, none⟩ = some (.string s)) (c1 : W.cell? ⟨a, 1, none⟩ = some (.int .i64 n)) (c2 : W.cell? ⟨c, 0, none⟩ = some (.bool o)) :
    (results Try.f13 tmps).run Try.prog W = .ok (.tuple #[.agg #[.string s, .int .i64 n], .bool o]) W := results_cells rfl h4 h5 (loadVar28 c0 c1) (loadVar4 c2)
theorem at_new (w : World) : ∀ W, (w.alloc (.cells #[.string ⟨#[]⟩, .int .i64 0] 28)).alloc (.cells #[.bool false] 4) = W → Bk W w.heap.size 28 2 (fun j => if j = 0 then .string ⟨#[]⟩ else .int .i64 0) ∧ Bk W (w.heap.size + 1) 4 1 (fun _ => .bool false) ∧ Below w.heap.size w W := by
  rintro W rfl
  have a5 := Bk.one (W := w.alloc (.cells #[.string ⟨#[]⟩, .int .i64 0] 28)) (T := 4) (v := .bool false)
  simp only [World.size_alloc] at a5
  refine ⟨Bk.alloc (Bk.of _ (World.alloc_heap_new w _) rfl (fun j hj => ?_)) _, a5, below_alloc (below_alloc (Below.refl _ _) _) _⟩
  have : j = 0 ∨ j = 1 := by
    have : j < 2 := hj
    omega
  rcases this with rfl | rfl <;> rfl
theorem boxes_new (w1 : World) (v0 v1 v2 : Value) : ∀ W0, ((w1.alloc (.cells #[v0] 24)).alloc (.cells #[v1] 3)).alloc (.cells #[v2] 3) = W0 → W0.cell? ⟨w1.heap.size, 0, none⟩ = some v0 ∧ W0.cell? ⟨w1.heap.size + 1, 0, none⟩ = some v1 ∧ W0.cell? ⟨w1.heap.size + 1 + 1, 0, none⟩ = some v2 ∧ W0.heap.size = w1.heap.size + 1 + 1 + 1 ∧ Below w1.heap.size w1 W0 := by
  rintro W0 rfl
  have a0 := Bk.one (W := w1) (T := 24) (v := v0)
  have a1 := Bk.one (W := w1.alloc (.cells #[v0] 24)) (T := 3) (v := v1)
  have a2 := Bk.one (W := (w1.alloc (.cells #[v0] 24)).alloc (.cells #[v1] 3)) (T := 3) (v := v2)
  simp only [World.size_alloc] at a1 a2
  exact ⟨((a0.alloc _).alloc _).cell (by omega), (a1.alloc _).cell (by omega), a2.cell (by omega), by simp only [World.size_alloc], below_alloc (below_alloc (below_alloc (Below.refl _ _) _) _) _⟩
theorem at_stored {w W W' : World} {a c : Nat} {s s' : ByteArray} {n n' : Int} {o o' : Bool} (n0 : Nat) (h4 : Bk W a 28 2 (fun j => if j = 0 then .string s else .int .i64 n)) (h5 : Bk W c 4 1 (fun _ => .bool o)) (hb : Below w.heap.size w W) (ha : w.heap.size ≤ a) (hc : w.heap.size ≤ c) (hac : a ≠ c)
    (hW : ((W.setCell ⟨a, 0, none⟩ (.string s')).setCell ⟨a, 1, none⟩ (.int .i64 n')).setCell ⟨c, 0, none⟩ (.bool o') = W') : KeepsFrom n0 W W' ∧ Below w.heap.size w W' ∧ Bk W' a 28 2 (fun j => if j = 0 then .string s' else .int .i64 n') ∧ Bk W' c 4 1 (fun _ => .bool o') := by
  subst hW
  refine ⟨((KeepsOthers.setCell _ _ _).trans ((KeepsOthers.setCell _ _ _).trans (KeepsOthers.setCell _ _ _))).from _, ((hb.setCell (p := ⟨a, 0, none⟩) ha _).setCell (p := ⟨a, 1, none⟩) ha _).setCell (p := ⟨c, 0, none⟩) hc _, ?_, ?_⟩
  · refine (((h4.set 0 _).set 1 _).far hac 0 _).ext (fun j hj => ?_)
    have : j = 0 ∨ j = 1 := by omega
    rcases this with rfl | rfl <;> simp
  · exact (((h5.far (fun e => hac e.symm) 0 _).far (fun e => hac e.symm) 1 _).set 0 _).ext (fun j hj => by rw [if_pos (by omega)])
set_option maxHeartbeats 2000000 in
theorem at_out (p : Option Addr) (n : Nat) (i : Int) (w : World) (hl : ∀ w' : World, Below w.heap.size w w' → Calls Try.prog 12 #[.pointer p] w' fun e w1 => e = .returned (.int .i64 (n : Int)) ∧ w1 = w') (hi : i < 0 ∨ (n : Int) ≤ i) :
    Calls Try.prog 13 #[.pointer p, .int .i64 i] w fun e w' => e = .returned (.tuple #[.agg #[.string ⟨#[]⟩, .int .i64 0], .bool false]) ∧ Below w.heap.size w w' := by
  obtain ⟨a4, a5, hb⟩ := at_new w _ rfl
  have hl2 := hl _ hb
  have c0 := a4.cell (show 0 < 2 by omega)
  have c1 := a4.cell (show 1 < 2 by omega)
  have c2 := a5.cell (show 0 < 1 by omega)
  have C0 := Aside0.mk c0
  have C1 := Aside0.mk c1
  have C2 := Aside0.mk c2
  have HB := Aside0.mk hb
  clear a4 a5 hb hl c0 c1 c2
  go_enter Try.func13, Try.ntmps13
  by_cases h0 : i < 0
  · go_wp2_with fail
    exact bodyPost_ret (results13 (by rfl) (by rfl) C0.out C1.out C2.out) rfl ⟨rfl, HB.out⟩
  · have h1 : (n : Int) ≤ i := by omega
    go_wp2_with fail
    refine hl2.mono ?_
    rintro e w1 ⟨rfl, rfl⟩
    go_wp2_with fail
    exact bodyPost_ret (results13 (by rfl) (by rfl) C0.out C1.out C2.out) rfl ⟨rfl, HB.out⟩
set_option maxHeartbeats 8000000 in
set_option maxRecDepth 100000 in
theorem at_in (b : Nat) (bs : List Nat) (σ : St) (q : Nat) (hq : q < bs.length) (w : World) (hS : Sk w b bs σ) (hX : Shape b bs σ) :
    Calls Try.prog 13 #[.pointer (some ⟨b, 0, none⟩), .int .i64 (q : Int)] w fun e w' => e = .returned (.tuple #[.agg #[.string (σ.E (nd b bs (q + 1))).1, .int .i64 (σ.E (nd b bs (q + 1))).2], .bool true]) ∧ Below w.heap.size w w' := by
  have HS := Aside0.mk hS
  have HX := Aside0.mk hX
  have hln := hX.len
  have hsm := hX.small
  have hq0 : ¬ ((q : Int) < 0) := by omega
  have hz : IntKind.i64.wrap ((q : Int) + 1) = ((q + 1 : Nat) : Int) := IntWalk.i64_in _ (by omega)
  have hlen := fun w' (hb : Below w.heap.size w w') => len_calls (hS.below hb)
  rw [hln] at hlen
  clear hS hX
  refine calls_of_wp_marks 8 Try.func13 rfl ?_
  simp only [Try.ntmps13, List.size_toArray, List.length_cons, List.length_nil, Nat.reduceAdd, Nat.reduceSub, Array.replicate_succ, Array.replicate_zero, List.push_toArray, List.append_toArray, List.nil_append, List.cons_append]
  go_wp2_with fail
  generalize hW2 : World.alloc _ (.cells #[.bool false] 4) = W2
  obtain ⟨a4, a5, hb⟩ := at_new w W2 hW2
  clear hW2
  refine (hlen W2 hb).mono ?_
  rintro e w1 ⟨rfl, rfl⟩
  go_wp2_with fail
  refine (nodes_calls _ _ _ _).mono ?_
  rintro e w' ⟨rfl, rfl⟩
  go_wp2_with fail
  have hw : w.heap.size + 1 < w1.heap.size := a5.lt
  generalize hW0 : World.alloc _ (.cells #[.int .i64 ((q : Int) + 1)] 3) = W0
  obtain ⟨b0, b1, b2, hs0, hb0⟩ := boxes_new w1 _ _ _ W0 hW0
  clear hW0 hlen
  have hbW : Below w.heap.size w W0 := hb.trans (hb0.mono hb.size)
  have hF : inF σ.n (q : Int) = (q : Nat) := by rw [hln]; unfold inF mx mn; split <;> split <;> omega
  have hT : inT σ.n (q : Int) ((q : Int) + 1) = (q + 1 : Nat) := by unfold inT; rw [hF, hln]; unfold mx mn; split <;> split <;> omega
  have hst := nodes_stops b bs σ w.heap.size w1.heap.size (w1.heap.size + 1) (w1.heap.size + 1 + 1) (q : Int) ((q : Int) + 1) q (q + 1) hF hT (by omega) (by omega) HX.out (fun c hc => HS.out.lt hc) W0 (HS.out.below hbW) b0 b1 b2 (by omega) (by omega)
  have A4 := Aside0.mk (a4.below hb0)
  have A5 := Aside0.mk (a5.below hb0)
  have HBW := Aside0.mk hbW
  have HST := Aside0.mk hst
  clear a4 a5 hb hb0 b0 b1 b2 hbW hst hF hT
  refine (wpIn_wide (n := 7)).1 ?_
  refine wpIn_rangeFunc_ownG rfl (by omega) (gf := 41) (lb := #[.pointer (some ⟨w1.heap.size, 0, none⟩), .pointer (some ⟨w1.heap.size + 1, 0, none⟩), .pointer (some ⟨w1.heap.size + 1 + 1, 0, none⟩)]) rfl trivial (enters_of Try.func41 (by kernel_rfl) rfl)
    HST.out (fun h k => h.trans k) (fun W l o o' hl h1 h2 h3 => belowK_b (w := w) (Nat.le_refl _) W l o o' (by omega) h1 h2 h3) (Below.refl _ _) (fun _ => rfl)
    (fun pre W => pre = [] ∧ Below w.heap.size w W ∧ Bk W w.heap.size 28 2 (fun j => if j = 0 then .string ⟨#[]⟩ else .int .i64 0) ∧ Bk W (w.heap.size + 1) 4 1 (fun _ => .bool false))
    (fun c pre W => c = .ret ∧ Below w.heap.size w W ∧ ∃ x : Po bs.length, pre = [x] ∧ Bk W w.heap.size 28 2 (fun j => if j = 0 then .string (σ.E (nd b bs (x.1 + 1))).1 else .int .i64 (σ.E (nd b bs (x.1 + 1))).2) ∧ Bk W (w.heap.size + 1) 4 1 (fun _ => .bool true))
    (fun s X Y row hs hg hr => ⟨hs.1, hs.2.1.grown hg hs.2.1.size (fun k e => by have := (hr k e).1; omega), hs.2.2.1.own hg (fun r e => (hr r e).2), hs.2.2.2.own hg (fun r e => (hr r e).2)⟩)
    (fun c s X Y row hs hg hr => ⟨hs.1, hs.2.1.grown hg hs.2.1.size (fun k e => by have := (hr k e).1; omega), by
      obtain ⟨x, h1, h2, h3⟩ := hs.2.2
      exact ⟨x, h1, h2.own hg (fun r e => (hr r e).2), h3.own hg (fun r e => (hr r e).2)⟩⟩)
    ⟨rfl, HBW.out, A4.out, A5.out⟩
    (fun x => { tmps := #[.pointer (some ⟨b, 0, none⟩), .int .i64 (q : Int), undef, undef, .pointer (some ⟨w.heap.size, 0, none⟩), .pointer (some ⟨w.heap.size + 1, 0, none⟩), .pointer (some ⟨nd b bs (x.1 + 1), 0, none⟩), .int .i64 (q : Int), .bool false, .bool false, .int .i64 (q : Int), .pointer (some ⟨b, 0, none⟩), .int .i64 (bs.length : Int), .bool false, .bool false, undef, .pointer (some ⟨b, 0, none⟩), .int .i64 (q : Int), .int .i64 (q : Int), .int .i64 ((q : Int) + 1), .func (.func 41) #[] #[.pointer (some ⟨w1.heap.size, 0, none⟩), .pointer (some ⟨w1.heap.size + 1, 0, none⟩), .pointer (some ⟨w1.heap.size + 1 + 1, 0, none⟩)], .pointer (some ⟨nd b bs (x.1 + 1), 0, none⟩), undef, undef, undef, undef, undef], defers := [] }) ?assign ?body ?done ?stop
  case assign =>
    intro lp x W K hK
    simp only [nenc] at hK ⊢
    gi_wp2
    exact hK
  case body =>
    rintro lp pre x W ⟨rfl, hB, h4, h5⟩ hlt
    have hSr := HS.out.below hB
    have hm := nd_mem' (b := b) (show 1 ≤ x.1 + 1 by omega) (show x.1 + 1 ≤ bs.length by have := x.2; omega)
    have hme := hSr.member_ hm
    have hsc := hSr.score_ hm
    have f0 := h4.frozen 0
    have f1 := h4.frozen 1
    have f2 := h5.frozen 0
    have c0 := h4.cell (show 0 < 2 by omega)
    have c1 := h4.cell (show 1 < 2 by omega)
    have c2 := h5.cell (show 0 < 1 by omega)
    replace c0 : W.cell? ⟨w.heap.size, 0, none⟩ = some (.string ⟨#[]⟩) := c0
    replace c1 : W.cell? ⟨w.heap.size, 1, none⟩ = some (.int .i64 0) := c1
    have HB := Aside0.mk hB
    have HH4 := Aside0.mk h4
    have HH5 := Aside0.mk h5
    clear hSr hm h4 h5 hB
    gi_wp2
    obtain ⟨p1, p2, p3, p4⟩ := at_stored (s' := (σ.E (nd b bs (x.1 + 1))).1) (n' := (σ.E (nd b bs (x.1 + 1))).2) (o' := true) W0.heap.size HH4.out HH5.out HB.out (Nat.le_refl _) (by omega) (by omega) rfl
    exact ⟨p1, rfl, p2, x, rfl, p3, p4⟩
  case done =>
    rintro D ys W hD hys ⟨rfl, _⟩ hK
    have := congrArg List.length hys
    rw [List.length_range'] at this
    simp [poss] at this
  case stop =>
    rintro D c pre W hD ⟨r, hr⟩ ⟨rfl, hB, x, rfl, h4, h5⟩ hK
    have hx : x.1 = q := by
      rw [show q + 1 - q = 1 by omega] at hr
      simp [poss] at hr
      exact hr.1
    rw [hx] at h4
    gi_wp2
    refine ⟨by simp, .inl ⟨_, _, rfl, run_takeDeferred hK, ?_⟩⟩
    have hp4 := h4.move (W' := W.putObj D (.deferred none)) (World.putObj_heap_other (by omega))
    have hp5 := h5.move (W' := W.putObj D (.deferred none)) (World.putObj_heap_other (by omega))
    refine ⟨_, results13 (by rfl) (by rfl) (hp4.cell (show 0 < 2 by omega)) (hp4.cell (show 1 < 2 by omega)) (hp5.cell (show 0 < 1 by omega)), rfl, hB.trans (belowK_b (w := w) (Nat.le_refl _) W D _ _ (by omega) hK rfl rfl)⟩
end Go.Proofs.Ytnlbdmiflihghaa.P
