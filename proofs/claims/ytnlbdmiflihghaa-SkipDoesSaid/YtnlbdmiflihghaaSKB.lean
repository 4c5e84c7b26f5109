/- The entries of places. Conditions: each theorem names its own. -/
import Derived.Test.YtnlbdmiflihghaaSKX
namespace Go.Proofs.Ytnlbdmiflihghaa.P
open Go.RowKit Go.Shelf Go.Proofs.YtnlbdmiflihghaaW.PrintWords Go.Proofs.YtnlbdmiflihghaaW.PrintLast Go.Proofs.YtnlbdmiflihghaaW.PrintMore Go.Proofs.Ytnlbdmiflihghaa.SK
attribute [local go_sem] Oper.semAt_some

/-- The entry at a place. -/
def entAt (b : Nat) (bs : List Nat) (σ : St) (q : Nat) : En := σ.E (nd b bs (q + 1))
set_option maxHeartbeats 8000000 in
set_option maxRecDepth 100000 in
theorem range_calls (b : Nat) (bs : List Nat) (σ : St) (f t : Int) (F T : Nat) (hF : inF σ.n f = F) (hT : inT σ.n f t = T) (hFT : F ≤ T) (hTl : T ≤ bs.length) (w : World) (hS : Sk w b bs σ) (hX : Shape b bs σ) :
    Calls Try.prog 20 #[.pointer (some ⟨b, 0, none⟩), .int .i64 f, .int .i64 t] w fun e w' => ∃ v, e = .returned v ∧ RowE w' w.heap.size v ((List.range' F (T - F)).map (entAt b bs σ)) ∧ Below w.heap.size w w' := by
  have HS := Aside0.mk hS
  have HX := Aside0.mk hX
  have hsm := hX.small
  clear hS hX
  refine calls_of_wp_marks 8 Try.func20 rfl ?_
  simp only [Try.ntmps20, List.size_toArray, List.length_cons, List.length_nil, Nat.reduceAdd, Nat.reduceSub, Array.replicate_succ, Array.replicate_zero, List.push_toArray, List.append_toArray, List.nil_append, List.cons_append]
  go_wp2_with fail
  have a7 := Bk.one (W := w) (T := 42) (v := .slice none 0 0)
  have hb1 : Below w.heap.size w (w.alloc (.cells #[.slice none 0 0] 42)) := below_alloc (Below.refl _ _) _
  generalize World.alloc w _ = w1 at a7 hb1 ⊢
  refine (nodes_calls _ _ _ _).mono ?_
  rintro e w' ⟨rfl, rfl⟩
  go_wp2_with fail
  have hw : w.heap.size < w1.heap.size := a7.lt
  generalize hW0 : World.alloc _ (.cells #[.int .i64 t] 3) = W0
  obtain ⟨b0, b1, b2, hs0, hb0⟩ := boxes_new w1 _ _ _ W0 hW0
  clear hW0
  have hbW : Below w.heap.size w W0 := hb1.trans (hb0.mono hb1.size)
  have hst := nodes_stops b bs σ w.heap.size w1.heap.size (w1.heap.size + 1) (w1.heap.size + 1 + 1) f t F T hF hT hFT hTl HX.out (fun c hc => HS.out.lt hc) W0 (HS.out.below hbW) b0 b1 b2 (by omega) (by omega)
  have A7 := Aside0.mk (a7.below hb0)
  have HBW := Aside0.mk hbW
  have HST := Aside0.mk hst
  clear a7 hb1 hb0 b0 b1 b2 hbW hst hF hT
  refine (wpIn_wide (n := 7)).1 ?_
  refine wpIn_rangeFunc_ownG rfl (by omega) (gf := 41) (lb := #[.pointer (some ⟨w1.heap.size, 0, none⟩), .pointer (some ⟨w1.heap.size + 1, 0, none⟩), .pointer (some ⟨w1.heap.size + 1 + 1, 0, none⟩)]) rfl trivial (enters_of Try.func41 (by kernel_rfl) rfl)
    HST.out (fun h k => h.trans k) (fun W l o o' hl h1 h2 h3 => belowK_b (w := w) (Nat.le_refl _) W l o o' (by omega) h1 h2 h3) (Below.refl _ _) (fun _ => rfl)
    (fun pre W => Below w.heap.size w W ∧ ∃ v, Bk W w.heap.size 42 1 (fun _ => v) ∧ RowE W w.heap.size v ((poss pre).map (entAt b bs σ)))
    (fun _ _ _ => False)
    (fun s X Y row hs hg hr => by
      obtain ⟨h1, v, h2, h3⟩ := hs
      have hrow : ∀ k, v.ownBlock = some k → Y.heap[k]? = X.heap[k]? := fun k hk => hg.block k (h3.lt k hk).2 (fun e => by
        obtain ⟨o, ho, hc⟩ := (hr k e.symm).2
        rcases h3.2 with ⟨rfl, _⟩ | ⟨g, cap, cur, rfl, h4, h5, _⟩
        · cases hk
        · have : g = k := by injection hk
          subst this
          rw [h5] at ho
          cases ho
          cases hc)
      exact ⟨h1.grown hg h1.size (fun k e => by have := (hr k e).1; omega), v, h2.own hg (fun r e => (hr r e).2), rows_own h3 hrow⟩)
    (fun _ _ _ _ _ hs _ _ => hs)
    ⟨HBW.out, _, A7.out, rowE_nil _ _⟩
    (fun x => { tmps := #[.pointer (some ⟨b, 0, none⟩), .int .i64 f, .int .i64 t, undef, undef, undef, .slice none 0 0, .pointer (some ⟨w.heap.size, 0, none⟩), .pointer (some ⟨nd b bs (x.1 + 1), 0, none⟩), .pointer (some ⟨b, 0, none⟩), .int .i64 f, .int .i64 t, .func (.func 41) #[] #[.pointer (some ⟨w1.heap.size, 0, none⟩), .pointer (some ⟨w1.heap.size + 1, 0, none⟩), .pointer (some ⟨w1.heap.size + 1 + 1, 0, none⟩)], .pointer (some ⟨nd b bs (x.1 + 1), 0, none⟩), undef, undef, undef, undef, undef, undef, undef, undef], defers := [] }) ?assign ?body ?done ?stop
  case assign =>
    intro lp x W K hK
    simp only [nenc] at hK ⊢
    gi_wp2
    exact hK
  case body =>
    rintro lp pre x W ⟨hB, v, h7, hR⟩ hlt
    have hSr := HS.out.below hB
    have hm := nd_mem' (b := b) (show 1 ≤ x.1 + 1 by omega) (show x.1 + 1 ≤ bs.length by have := x.2; omega)
    have hme := hSr.member_ hm
    have hsc := hSr.score_ hm
    have hpl : ((poss pre).map (entAt b bs σ)).length ≤ 1000 := by rw [List.length_map, poss_len]; omega
    have hlW : w.heap.size < W.heap.size := h7.lt
    have c7 := h7.cell (show 0 < 1 by omega)
    have HB := Aside0.mk hB
    have HH7 := Aside0.mk h7
    have HR := Aside0.mk hR
    obtain ⟨A, c, hv, _, _⟩ := hR.reads
    generalize hLe : List.length _ = m at hv
    have HLE := Aside0.mk hLe
    clear hLe
    subst hv
    clear hSr hm h7 hB hR
    have HKB : Aside0 (∀ B : Nat, B = W0.heap.size → ∀ v1 w1, RowE w1 w.heap.size v1 ((poss pre).map (entAt b bs σ) ++ [entAt b bs σ x.1]) → (W.drew.alloc (.cells #[.string (σ.E (nd b bs (x.1 + 1))).1, .int .i64 (σ.E (nd b bs (x.1 + 1))).2] 28)).grownBy w1 (Value.slice A m c).ownBlock →
        (∃ A1 m1 c1, v1 = .slice A1 m1 c1) ∧ w1.cell? ⟨w.heap.size, 0, none⟩ = some (.slice A m c) ∧ w1.frozen? ⟨w.heap.size, 0, none⟩ = false ∧ ∀ w2, w1.setCell ⟨w.heap.size, 0, none⟩ v1 = w2 → KeepsFrom B W w2 ∧ Below w.heap.size W w2 ∧ Bk w2 w.heap.size 42 1 (fun _ => v1) ∧ RowE w2 w.heap.size v1 ((poss (pre ++ [x])).map (entAt b bs σ)) ∧ Below w.heap.size w w2) := ⟨by
      rintro B rfl v1 w1 hR1 hg1
      have hne := own_not HR.out HH7.out (by decide)
      have hb7 : Bk w1 w.heap.size 42 1 (fun _ => .slice A m c) := HH7.out.move ((hg1.block _ (by rw [World.size_alloc]; show w.heap.size < W.heap.size + 1; omega) (fun e => hne e.symm)).trans (((Below.refl W.heap.size W).drew.alloc (Nat.le_refl _) _).block _ hlW))
      have hne1 := own_not hR1 hb7 (by decide)
      obtain ⟨A1, c1, hv1, _, _⟩ := hR1.reads
      have hbW : Below w.heap.size W w1 := ((Below.refl w.heap.size W).drew.alloc (show w.heap.size ≤ W.drew.heap.size by show w.heap.size ≤ W.heap.size; omega) _).grown hg1 (by rw [World.size_alloc]; show w.heap.size ≤ W.heap.size + 1; omega) (fun k hk => (HR.out.lt k hk).1)
      refine ⟨⟨A1, _, c1, hv1⟩, hb7.cell (show 0 < 1 by omega), hb7.frozen 0, ?_⟩
      rintro w2 rfl
      have hb2 : Below w.heap.size W (w1.setCell ⟨w.heap.size, 0, none⟩ v1) := hbW.setCell (p := ⟨w.heap.size, 0, none⟩) (Nat.le_refl _) _
      refine ⟨?_, hb2, (hb7.set 0 v1).ext (fun j hj => by rw [if_pos (by omega)]), ?_, HB.out.trans hb2⟩
      · have k1 : KeepsOthers W (W.drew.alloc (.cells #[.string (σ.E (nd b bs (x.1 + 1))).1, .int .i64 (σ.E (nd b bs (x.1 + 1))).2] 28)) := (KeepsOthers.drew W).trans (KeepsOthers.alloc _ _)
        have k2 : KeepsOthers (W.drew.alloc (.cells #[.string (σ.E (nd b bs (x.1 + 1))).1, .int .i64 (σ.E (nd b bs (x.1 + 1))).2] 28)) w1 := KeepsOthers.of_grownBy hg1 (fun j o hj ho => by
          have hlt := (HR.out.lt j hj).2
          have hm : (W.drew.alloc (.cells #[.string (σ.E (nd b bs (x.1 + 1))).1, .int .i64 (σ.E (nd b bs (x.1 + 1))).2] 28)).heap[j]? = W.heap[j]? := ((Below.refl W.heap.size W).drew.alloc (Nat.le_refl _) _).block j hlt
          rw [hm] at ho
          rcases HR.out.2 with ⟨hv, _⟩ | ⟨g, cap, cur, hv, h4, h5, _⟩
          · rw [hv] at hj; cases hj
          · rw [hv] at hj
            have : g = j := by injection hj
            subst this
            rw [h5] at ho
            cases ho
            rfl)
        exact ((k1.trans k2).trans (KeepsOthers.setCell _ _ _)).from _
      · rw [poss_snoc, List.map_append]
        exact rows_own hR1 (fun k hk => Below.heap_setCell w1 ⟨w.heap.size, 0, none⟩ v1 k (fun e => hne1 (by rw [hk]; exact congrArg some e)))⟩
    have hRd : RowE W.drew w.heap.size (.slice A m c) ((poss pre).map (entAt b bs σ)) := World.ownsRow.drew HR.out
    have HRd := Aside0.mk hRd
    clear hRd
    refine wpIn_block ?_
    refine region_any_round (F := Fence.wide) (by kernel_rfl) (by kernel_rfl) ?_
    have hme2 : W.drew.cell? ⟨nd b bs (x.1 + 1), 0, none⟩ = some (.string (σ.E (nd b bs (x.1 + 1))).1) := hme
    have hsc2 : W.drew.cell? ⟨nd b bs (x.1 + 1), 1, none⟩ = some (.int .i64 (σ.E (nd b bs (x.1 + 1))).2) := hsc
    have c72 : W.drew.cell? ⟨w.heap.size, 0, none⟩ = some (.slice A m c) := c7
    have hszd : W.drew.heap.size = W.heap.size := rfl
    refine wpAnyIn_take (i := 1) (v := .pointer (some ⟨nd b bs (x.1 + 1), 0, none⟩)) rfl rfl (by kernel_rfl) (by kernel_rfl) (by kernel_rfl) (fun _ _ _ h => h) ⟨Or.inl ⟨by rfl, fun w => by go_simp⟩, fun _ => rfl⟩ ?_
    refine wpAnyIn_take (i := 2) (v := .pointer (some ⟨nd b bs (x.1 + 1), 0, none⟩)) rfl rfl (by kernel_rfl) (by kernel_rfl) (by kernel_rfl) (fun _ _ _ h => h) ⟨Or.inl ⟨by rfl, fun w => by go_simp⟩, fun _ => rfl⟩ ?_
    refine wpAnyIn_take (i := 3) (v := .pointer (some ⟨nd b bs (x.1 + 1), 0, none⟩)) rfl rfl (by kernel_rfl) (by kernel_rfl) (by kernel_rfl) (fun _ _ _ h => h) ⟨Or.inl ⟨by rfl, fun w => by go_simp⟩, fun _ => rfl⟩ ?_
    simp only [Act.put, List.setIfInBounds_toArray]
    refine wpAnyIn_ready (rs := [0, 4]) (by kernel_rfl) (by simp) ?_
    refine AllReadyIn.cons rfl (fun K hK => ?_) (AllReadyIn.cons rfl (fun K hK => ?_) AllReadyIn.nil)
    · go_simp
      refine hK _ _ ?_
      clear hK K
      refine seq_from 4 (by rfl) (by kernel_rfl) ?_
      gi_wp2_with (first | (gi_at_builtin; refine append_in28 W.drew rfl _ _ rfl w.heap.size (.slice A m c) ((poss pre).map (entAt b bs σ)) (entAt b bs σ x.1) rfl rfl HRd.out (by show w.heap.size ≤ W.heap.size; omega) (by omega) ?_; intro v1 w5 hR5 hg5; obtain ⟨⟨A1, m1, c1, rfl⟩, d7, g7, hfin⟩ := HKB.out W0.heap.size rfl v1 w5 hR5 hg5; clear hR5 hg5; have HFIN := Aside0.mk hfin; clear hfin))
      obtain ⟨p1, p2, p3, p4, p5⟩ := HFIN.out _ rfl
      exact ⟨p1, p2, p5, _, p3, p4⟩
    · go_simp
      refine hK _ _ ?_
      clear hK K
      refine wpAnyIn_ready (rs := [0, 5]) (by kernel_rfl) (by simp) ?_
      refine AllReadyIn.cons rfl (fun K hK => ?_) (AllReadyIn.cons rfl (fun K hK => ?_) AllReadyIn.nil)
      · go_simp
        refine hK _ _ ?_
        clear hK K
        refine seq_from 5 (by rfl) (by kernel_rfl) ?_
        gi_wp2_with (first | (gi_at_builtin; refine append_in28 W.drew rfl _ _ rfl w.heap.size (.slice A m c) ((poss pre).map (entAt b bs σ)) (entAt b bs σ x.1) rfl rfl HRd.out (by show w.heap.size ≤ W.heap.size; omega) (by omega) ?_; intro v1 w5 hR5 hg5; obtain ⟨⟨A1, m1, c1, rfl⟩, d7, g7, hfin⟩ := HKB.out W0.heap.size rfl v1 w5 hR5 hg5; clear hR5 hg5; have HFIN := Aside0.mk hfin; clear hfin))
        obtain ⟨p1, p2, p3, p4, p5⟩ := HFIN.out _ rfl
        exact ⟨p1, p2, p5, _, p3, p4⟩
      · go_simp
        refine hK _ _ ?_
        clear hK K
        have c73 : (W.drew.alloc (.cells #[.string (σ.E (nd b bs (x.1 + 1))).1, .int .i64 (σ.E (nd b bs (x.1 + 1))).2] 28)).cell? ⟨w.heap.size, 0, none⟩ = some (.slice A m c) := (((Below.refl W.drew.heap.size W.drew).alloc (Nat.le_refl _) _).cell (p := ⟨w.heap.size, 0, none⟩) hlW).trans c72
        refine wpAnyIn_ready (rs := [0]) (by kernel_rfl) (by simp) ?_
        refine AllReadyIn.cons rfl (fun K hK => ?_) AllReadyIn.nil
        go_simp
        refine hK _ _ ?_
        clear hK K
        refine seq_from 6 (by rfl) (by kernel_rfl) ?_
        simp only [List.drop_succ_cons, List.drop_zero]
        gi_at_builtin
        refine append_in28 W.drew rfl _ _ rfl w.heap.size (.slice A m c) ((poss pre).map (entAt b bs σ)) (entAt b bs σ x.1) rfl rfl HRd.out (by show w.heap.size ≤ W.heap.size; omega) (by omega) ?_
        intro v1 w5 hR5 hg5
        obtain ⟨⟨A1, m1, c1, rfl⟩, d7, g7, hfin⟩ := HKB.out W0.heap.size rfl v1 w5 hR5 hg5
        clear hR5 hg5
        have HFIN := Aside0.mk hfin
        clear hfin
        gi_wp2
        obtain ⟨p1, p2, p3, p4, p5⟩ := HFIN.out _ rfl
        exact ⟨p1, p2, p5, _, p3, p4⟩
  case done =>
    rintro D ys W hD hys ⟨hB, v, h7, hR⟩ hK
    have hlW : w.heap.size < W.heap.size := h7.lt
    have c7 := h7.cell (show 0 < 1 by omega)
    rw [hys] at hR
    obtain ⟨A, c, hv, _, _⟩ := hR.reads
    generalize List.length _ = m at hv
    subst hv
    have HR := Aside0.mk hR
    have HB := Aside0.mk hB
    clear h7 hR hB
    gi_wp2
    go_wp2
    refine ⟨by simp, .inl ⟨_, _, rfl, run_takeDeferred hK, ?_⟩⟩
    refine ⟨_, results_tmp (t := 6) rfl _ _ _, .slice A m c, rfl, rows_own HR.out (fun k hk => World.putObj_heap_other (fun e => ?_)), HB.out.trans (belowK_b (w := w) (Nat.le_refl _) W D _ _ (by omega) hK rfl rfl)⟩
    subst e
    rcases HR.out.2 with ⟨hv, _⟩ | ⟨g, cap, cur, hv, h4, h5, _⟩
    · rw [hv] at hk; cases hk
    · rw [hv] at hk
      have : g = k := by injection hk
      subst this
      rw [h5] at hK
      cases hK
  case stop =>
    rintro D c pre W hD hpre h _
    exact h.elim
end Go.Proofs.Ytnlbdmiflihghaa.P

/- The spans of a level. Conditions: each theorem names its own. -/
namespace Go.Proofs.Ytnlbdmiflihghaa.P
open Go.RowKit Go.Shelf Go.Proofs.YtnlbdmiflihghaaW.PrintWords Go.Proofs.YtnlbdmiflihghaaW.PrintLast Go.Proofs.YtnlbdmiflihghaaW.PrintMore Go.Proofs.Ytnlbdmiflihghaa.SK
attribute [local go_sem] Oper.semAt_some

/-- How far apart they are that are on a level. -/
def gaps (i : Nat) : List Nat → Nat → List Int
  | [], _ => []
  | h :: r, d => if i < h then ((d + 1 : Nat) : Int) :: gaps i r 0 else gaps i r (d + 1)
theorem drop_getD (lv : List Nat) (p : Nat) (h : p < lv.length) : lv.drop p = lv.getD p 0 :: lv.drop (p + 1) := by
  rw [List.drop_eq_getElem_cons h, List.getD_eq_getElem?_getD, List.getElem?_eq_getElem h]
  rfl
theorem gaps_some (i : Nat) (lv : List Nat) (q : Nat) (hq : V lv i q) : ∀ n p d : Nat, p + n + 1 = q → (∀ r, p < r → r < q → ¬ V lv i r) → gaps i (lv.drop p) d = ((d + n + 1 : Nat) : Int) :: gaps i (lv.drop q) 0 := by
  have hl := V_le hq
  intro n
  induction n with
  | zero =>
    intro p d hp _
    have : p = q - 1 := by omega
    subst this
    rw [drop_getD lv (q - 1) (by omega), gaps, if_pos hq.2, show q - 1 + 1 = q by omega]
  | succ n ih =>
    intro p d hp hno
    have h1 := hno (p + 1) (by omega) (by omega)
    rw [drop_getD lv p (by omega), gaps, if_neg (fun h => h1 ⟨by omega, by rw [show p + 1 - 1 = p by omega]; exact h⟩), ih (p + 1) (d + 1) (by omega) (fun r h2 h3 => hno r (by omega) h3)]
    congr 2
    omega
theorem gaps_none (i : Nat) (lv : List Nat) : ∀ n p d : Nat, p + n = lv.length → (∀ r, p < r → ¬ V lv i r) → gaps i (lv.drop p) d = [] := by
  intro n
  induction n with
  | zero =>
    intro p d hp _
    rw [List.drop_eq_nil_of_le (by omega)]
    rfl
  | succ n ih =>
    intro p d hp hno
    have h1 := hno (p + 1) (by omega)
    rw [drop_getD lv p (by omega), gaps, if_neg (fun h => h1 ⟨by omega, by rw [show p + 1 - 1 = p by omega]; exact h⟩)]
    exact ih (p + 1) (d + 1) (by omega) (fun r h2 => hno r (by omega))
/-- A position's link tells the next gap. -/
theorem gaps_link {lv : List Nat} {i p : Nat} {o : Option Nat} {s : Int} (hp : p ≤ lv.length) (h : Nx lv i p o s) : gaps i (lv.drop p) 0 = match o with | some q => s :: gaps i (lv.drop q) 0 | none => [] := by
  cases o with
  | none => exact gaps_none i lv (lv.length - p) p 0 (by omega) h.1
  | some q =>
    obtain ⟨h1, h2, h3, h4⟩ := h
    rw [gaps_some i lv q h2 (q - p - 1) p 0 (by omega) h3]
    show _ :: _ = s :: _
    congr 1
    omega
theorem gaps_len (i : Nat) : ∀ (l : List Nat) (d : Nat), (gaps i l d).length ≤ l.length
  | [], _ => Nat.le_refl _
  | h :: r, d => by
    unfold gaps
    split
    · have := gaps_len i r 0
      simp only [List.length_cons]; omega
    · have := gaps_len i r (d + 1)
      simp only [List.length_cons]; omega
theorem spans_out (b : Nat) (bs : List Nat) (σ : St) (l : Int) (w : World) (hS : Sk w b bs σ) (hl : l < 1 ∨ (σ.H : Int) < l) :
    Calls Try.prog 15 #[.pointer (some ⟨b, 0, none⟩), .int .i64 l] w fun e w' => e = .returned (.slice none 0 0) ∧ w' = w := by
  have hH := hS.H_
  clear hS
  go_enter Try.func15, Try.ntmps15
  by_cases h1 : l < 1
  · go_wp2
    go_ret
    exact ⟨rfl, rfl⟩
  · have h2 : (σ.H : Int) < l := by omega
    go_wp2
    go_ret
    exact ⟨rfl, rfl⟩
theorem spans_nil (l : Int) (w : World) : Calls Try.prog 15 #[.pointer none, .int .i64 l] w fun e w' => e = .returned (.slice none 0 0) ∧ w' = w := by
  go_enter Try.func15, Try.ntmps15
  go_wp2
  go_ret
  exact ⟨rfl, rfl⟩
theorem ptr_eq (o : Option Nat) : ptr o = .pointer (o.map fun c => ⟨c, 0, none⟩) := by cases o <;> rfl
/-- A link's two cells in a block of their own. -/
def Lk (W : World) (B : Nat) (P : Option Addr) (s : Int) : Prop := Bk W B 58 2 (fun j => if j = 0 then .pointer P else .int .i64 s)
theorem Lk.c0 {W : World} {B : Nat} {P : Option Addr} {s : Int} (h : Lk W B P s) : W.cell? ⟨B, 0, none⟩ = some (.pointer P) := Bk.cell h (show 0 < 2 by omega)
theorem Lk.c1 {W : World} {B : Nat} {P : Option Addr} {s : Int} (h : Lk W B P s) : W.cell? ⟨B, 1, none⟩ = some (.int .i64 s) := Bk.cell h (show 1 < 2 by omega)
theorem Lk.new (W : World) (P : Option Addr) (s : Int) : Lk (W.alloc (.cells #[.pointer P, .int .i64 s] 58)) W.heap.size P s := by
  refine Bk.of _ (World.alloc_heap_new W _) rfl (fun j hj => ?_)
  have : j = 0 ∨ j = 1 := by
    have : j < 2 := hj
    omega
  rcases this with rfl | rfl <;> rfl
set_option maxHeartbeats 8000000 in
set_option maxRecDepth 100000 in
theorem spans_calls (b : Nat) (bs : List Nat) (σ : St) (i : Nat) (hi : i < σ.H) (w : World) (hS : Sk w b bs σ) (hX : Shape b bs σ) :
    Calls Try.prog 15 #[.pointer (some ⟨b, 0, none⟩), .int .i64 ((i + 1 : Nat) : Int)] w fun e w' => ∃ v, e = .returned v ∧ RowI w' w.heap.size v (gaps i (lvs σ bs) 0) ∧ Below w.heap.size w w' := by
  have hH := hS.H_
  have hbl := hS.head.lt
  have hH32 := hX.H32
  have hsm := hX.small
  obtain ⟨o, s, hn, ht⟩ := hX.tw 0 (by omega) i hi
  have hto := hS.to_ (List.mem_cons_self (a := b) (l := bs)) (show i < 32 by omega)
  have hsp := hS.span_ (List.mem_cons_self (a := b) (l := bs)) (show i < 32 by omega)
  replace ht : σ.tow b i = (o.map (nd b bs), s) := ht
  rw [ht] at hto hsp
  have HS := Aside0.mk hS
  have HX := Aside0.mk hX
  have HN := Aside0.mk hn
  have h1 : ¬ (((i + 1 : Nat) : Int) < 1) := by omega
  have h2 : ¬ ((σ.H : Int) < ((i + 1 : Nat) : Int)) := by omega
  have hi32 : i < 32 := by omega
  have hz : IntKind.i64.wrap (((i + 1 : Nat) : Int) - 1) = (i : Int) := by rw [show ((i + 1 : Nat) : Int) - 1 = (i : Int) by omega]; exact IntWalk.i64_in _ (by omega)
  generalize hl : ((i + 1 : Nat) : Int) = l at h1 h2 hz
  have HL := Aside0.mk hl
  clear hS hX hn ht hl
  go_enter Try.func15, Try.ntmps15
  rw [ptr_eq] at hto
  generalize hpv : Option.map _ (o.map (nd b bs)) = P0 at hto
  have HPV := Aside0.mk hpv
  have hi32z : (i : Int) < 32 := by omega
  clear hpv
  go_wp2
  have hL0 := Lk.new w P0 s
  have hb0 : Below w.heap.size w (w.alloc (.cells #[.pointer P0, .int .i64 s] 58)) := below_alloc (Below.refl _ _) _
  have hlt0 : w.heap.size < (w.alloc (.cells #[.pointer P0, .int .i64 s] 58)).heap.size := by simp
  generalize World.alloc w _ = w1 at hL0 hb0 hlt0 ⊢
  clear hto hsp hH
  go_loopg [5, 6] bs.length (fun gk v5 v6 wr => ∃ (p B : Nat) (o : Option Nat) (s : Int) (out : List Int), v6 = .pointer (some ⟨B, 0, none⟩) ∧ Aside0 (RowI wr w.heap.size v5 out) ∧ Aside0 (Lk wr B ((o.map (nd b bs)).map fun c => ⟨c, 0, none⟩) s) ∧ Aside0 (Nx (lvs σ bs) i p o s) ∧ Aside0 (out ++ gaps i ((lvs σ bs).drop p) 0 = gaps i (lvs σ bs) 0) ∧ gk + p = bs.length ∧ out.length ≤ p ∧ w.heap.size ≤ B ∧ Aside0 (Below w.heap.size w wr))
  case atStart => exact ⟨0, w.heap.size, o, s, [], rfl, ⟨rowI_nil _ _⟩, ⟨by rw [HPV.out]; exact hL0⟩, HN, ⟨rfl⟩, by omega, by simp, Nat.le_refl _, ⟨hb0⟩⟩
  case round =>
    clear hL0 hb0 hlt0 HN HPV
    obtain ⟨p, B, o, s, out, rfl, HR, HLk, HN, HG, hgk, hop, hBl, HB⟩ := hrel
    have hll : (lvs σ bs).length = bs.length := lvs_len σ bs
    have hgl := gaps_link (by omega : p ≤ (lvs σ bs).length) HN.out
    obtain ⟨A, c, hv, _, _⟩ := HR.out.reads
    generalize hm : out.length = m at hv
    have HM := Aside0.mk hm
    clear hm hll
    subst hv
    cases o with
    | none =>
      have c0 : wr.cell? ⟨B, 0, none⟩ = some (.pointer none) := HLk.out.c0
      have HE : Aside0 (out = gaps i (lvs σ bs) 0) := ⟨by
        have := HG.out
        rw [hgl] at this
        simpa using this⟩
      clear hgl
      go_wp2
      go_ret
      refine ⟨_, rfl, ?_, HB.out⟩
      rw [← HE.out]
      exact HR.out
    | some q =>
      have c0 : wr.cell? ⟨B, 0, none⟩ = some (.pointer (some ⟨nd b bs q, 0, none⟩)) := HLk.out.c0
      have c1 : wr.cell? ⟨B, 1, none⟩ = some (.int .i64 s) := HLk.out.c1
      have hBw : B < wr.heap.size := Bk.lt HLk.out
      have hws : w.heap.size < wr.heap.size := by omega
      have hq := HN.out
      have hVq := hq.2.1
      have hql := V_le hVq
      rw [lvs_len] at hql
      have hpq := hq.1
      have hlq : i < lvl σ bs q := (V_lvl.mp hVq).2
      obtain ⟨o', s', hn', ht'⟩ := HX.out.tw q hql i hlq
      have hmq : nd b bs q ∈ b :: bs := nd_mem hql
      have HKB : Aside0 (∀ v1 w5, RowI w5 w.heap.size v1 (out ++ [s]) → (wr.alloc (.cells #[.int .i64 s] 3)).grownBy w5 (Value.slice A m c).ownBlock →
          (∃ A1 m1 c1, v1 = .slice A1 m1 c1) ∧ w5.cell? ⟨B, 0, none⟩ = some (.pointer (some ⟨nd b bs q, 0, none⟩)) ∧ w5.cell? ⟨B, 1, none⟩ = some (.int .i64 s) ∧ 
          (w5.alloc (.cells #[.pointer (some ⟨nd b bs q, 0, none⟩), .int .i64 s] 58)).cell? ⟨nd b bs q, 2 + i * 2, none⟩ = some (.pointer ((o'.map (nd b bs)).map fun c => ⟨c, 0, none⟩)) ∧
          (w5.alloc (.cells #[.pointer (some ⟨nd b bs q, 0, none⟩), .int .i64 s] 58)).cell? ⟨nd b bs q, 2 + i * 2 + 1, none⟩ = some (.int .i64 s') ∧
          ∀ w6, w5.alloc (.cells #[.pointer ((o'.map (nd b bs)).map fun c => ⟨c, 0, none⟩), .int .i64 s'] 58) = w6 →
            RowI w6 w.heap.size v1 (out ++ [s]) ∧ Lk w6 w5.heap.size ((o'.map (nd b bs)).map fun c => ⟨c, 0, none⟩) s' ∧ w.heap.size ≤ w5.heap.size ∧ Below w.heap.size w w6) := ⟨by
        intro v1 w5 hR5 hg5
        obtain ⟨A1, c1', hv1, _, _⟩ := hR5.reads
        have hne := own_not HR.out HLk.out (by decide)
        have hL5 : Lk w5 B (some ⟨nd b bs q, 0, none⟩) s := Bk.move HLk.out ((hg5.block B (by rw [World.size_alloc]; omega) (fun e => hne e.symm)).trans (((Below.refl wr.heap.size wr).alloc (Nat.le_refl _) _).block B hBw))
        have hb5 : Below w.heap.size w w5 := (HB.out.alloc (by omega) _).grown hg5 (by rw [World.size_alloc]; omega) (fun k hk => (HR.out.lt k hk).1)
        have h5s : wr.heap.size + 1 ≤ w5.heap.size := by have := hg5.size; rwa [World.size_alloc] at this
        have hb6 : Below w.heap.size w (w5.alloc (.cells #[.pointer (some ⟨nd b bs q, 0, none⟩), .int .i64 s] 58)) := hb5.alloc (by omega) _
        have hS6 := HS.out.below hb6
        have t1 := hS6.to_ hmq (show i < 32 by omega)
        have t2 := hS6.span_ hmq (show i < 32 by omega)
        rw [ht'] at t1 t2
        rw [ptr_eq] at t1
        refine ⟨⟨A1, _, c1', hv1⟩, hL5.c0, hL5.c1, t1, t2, ?_⟩
        rintro w6 rfl
        refine ⟨rows_own hR5 (fun k hk => ?_), Lk.new w5 _ _, by omega, hb5.alloc (by omega) _⟩
        have hk5 := (hR5.lt k hk).2
        exact ((Below.refl w5.heap.size w5).alloc (Nat.le_refl _) _).block k hk5⟩
      have HN' := Aside0.mk hn'
      have HGL := Aside0.mk hgl
      clear hn' ht' hmq hlq hVq hq hgl
      generalize hP' : Option.map _ (o'.map (nd b bs)) = P' at HKB
      have HP' := Aside0.mk hP'
      clear hP'
      generalize hc : nd b bs q = cq at c0 HKB
      have HC := Aside0.mk hc
      clear hc
      go_wp2_with (first | ((with_reducible refine gate_builtin (b := .append) (xs := #[.tmp 40, .tmp 43]) rfl ?_); at_builtin; refine append_3 wr rfl _ _ rfl w.heap.size (.slice A m c) out s rfl rfl HR.out (by omega) (by omega) ?_; intro v1 w5 hR5 hg5; obtain ⟨⟨A1, m1, c1', rfl⟩, d0, d1, d2, d3, hfin⟩ := HKB.out v1 w5 hR5 hg5; clear hR5 hg5; have HFIN := Aside0.mk hfin; clear hfin))
      obtain ⟨p1, p2, p3, p4⟩ := HFIN.out _ rfl
      go_roundg (bs.length - q)
      case measure => omega
      case rel =>
        refine ⟨q, w5.heap.size, o', s', out ++ [s], rfl, ⟨p1⟩, ⟨by rw [HP'.out]; exact p2⟩, HN', ⟨?_⟩, by omega, by rw [List.length_append, List.length_singleton]; omega, p3, ⟨p4⟩⟩
        rw [← HG.out, HGL.out, List.append_assoc]
        rfl
end Go.Proofs.Ytnlbdmiflihghaa.P
