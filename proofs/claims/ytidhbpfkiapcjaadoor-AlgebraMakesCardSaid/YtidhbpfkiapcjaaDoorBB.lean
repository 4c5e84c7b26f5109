/- algebra.counts: in how many of the sets each member is. -/
import Derived.Test.YtidhbpfkiapcjaaDoorMA
import Derived.Test.YtidhbpfkiapcjaaDoorMQ
namespace Go.Proofs.YtidhbpfkiapcjaaDoor.P
open Go.RowKit Go.Lib Go.Proofs.YtidhbpfkiapcjaaDoorW.PrintWords Go.Proofs.YtidhbpfkiapcjaaDoorW.PrintLast Go.Proofs.YtidhbpfkiapcjaaDoorW.PrintMore Go.Proofs.YtidhbpfkiapcjaaDoor.Pure
attribute [local go_sem] Oper.semAt_some

/-- How often each member has come. -/
def cntS (T : List (ByteArray × Int)) (p : Nat × S36) : List (ByteArray × Int) := putT T p.2.f0 ((getT T p.2.f0).getD 0 + 1)
def cntT (ps : List (Nat × S36)) : List (ByteArray × Int) := ps.foldl cntS []
theorem cntT_snoc (ps : List (Nat × S36)) (p : Nat × S36) : cntT (ps ++ [p]) = cntS (cntT ps) p := by
  unfold cntT
  rw [List.foldl_append]
  rfl
theorem get_put_same (T : List (ByteArray × Int)) (m : ByteArray) (v : Int) : getT (putT T m v) m = some v := by
  unfold getT putT
  simp
theorem get_put_other (T : List (ByteArray × Int)) (m : ByteArray) (v : Int) {m' : ByteArray} (h : m' ≠ m) : getT (putT T m v) m' = getT T m' := by
  have := get_del_other T h
  unfold getT putT delT at *
  rw [List.find?_cons, decide_eq_false (Ne.symm h)]
  exact this
theorem cnt_bound : ∀ ps : List (Nat × S36), (cntT ps).length ≤ ps.length ∧ ∀ m, 0 ≤ (getT (cntT ps) m).getD 0 ∧ (getT (cntT ps) m).getD 0 ≤ ps.length := by
  intro ps
  rw [← List.reverse_reverse ps]
  generalize ps.reverse = r
  induction r with
  | nil => exact ⟨Nat.le_refl _, fun m => ⟨Int.le_refl 0, Int.le_refl 0⟩⟩
  | cons p r ih =>
    rw [List.reverse_cons, cntT_snoc]
    obtain ⟨h1, h2⟩ := ih
    refine ⟨?_, fun m => ?_⟩
    · have := put_len (cntT r.reverse) p.2.f0 ((getT (cntT r.reverse) p.2.f0).getD 0 + 1)
      unfold cntS
      rw [List.length_append, List.length_singleton]
      omega
    · rw [List.length_append, List.length_singleton]
      unfold cntS
      by_cases hm : m = p.2.f0
      · subst hm
        rw [get_put_same]
        have := h2 p.2.f0
        simp only [Option.getD_some]
        omega
      · rw [get_put_other _ _ _ hm]
        have := h2 m
        omega
theorem map_range (l : List (List S36)) : (List.range (pairs l).length).map (pairAt l) = pairs l := by
  apply List.ext_getElem?
  intro i
  rw [List.getElem?_map]
  by_cases h : i < (pairs l).length
  · rw [List.getElem?_range h]
    show some ((pairs l).getD i (0, z36)) = _
    rw [List.getD_eq_getElem?_getD, List.getElem?_eq_getElem h]
    rfl
  · rw [List.getElem?_eq_none (by rw [List.length_range]; omega), List.getElem?_eq_none (by omega)]
    rfl
theorem wfI {a : Int} (h : -9223372036854775808 ≤ a) (h2 : a ≤ 9223372036854775807) : (Lit.int .i64 a).wf = true := by
  simp only [Lit.wf, IntKind.min, IntKind.max, IntKind.signed, IntKind.bits, Bool.and_eq_true, decide_eq_true_eq, if_true]
  omega
theorem zero3 (w : World) : (zeroValue 3).run Tryd.prog w = .ok (.int .i64 0) w := by kernel_rfl
theorem zero2 (w : World) : (zeroValue 2).run Tryd.prog w = .ok (.int .i64 0) w := by kernel_rfl

theorem Blk.grown {W W2 : World} {B : Nat} {T : TypeId} {cs : Array Value} {row : Option Nat} (h : Blk W B T cs) (hg : W.grownBy W2 row) (hne : some B ≠ row) : Blk W2 B T cs := (hg.block B h.lt hne).trans h

set_option maxHeartbeats 8000000 in
set_option maxRecDepth 100000 in
theorem counts_calls (l : List (List S36)) (hl : GoodL l) (hlen : (pairs l).length ≤ 1000000) (A : Option Addr) (c : Nat) (w : World) (hC : Kd.C (Kd.slice 36 k36) w A l.length l) :
    Calls Tryd.prog 40 #[.slice A l.length c] w fun e w' => ∃ b, e = .returned (.map (some b)) ∧ w.heap.size ≤ b ∧ OwnsT Tryd.prog 9 3 w' b (cntT (pairs l)) ∧ Below w.heap.size w w' := by
  have HC := Aside0.mk hC
  have HL := Aside0.mk hl
  have HN := Aside0.mk hlen
  clear hC hl hlen
  have hmm := @run_makeMap Tryd.prog
  refine calls_of_wp_marks 8 Tryd.func40 rfl ?_
  simp only [Tryd.ntmps40, List.size_toArray, List.length_cons, List.length_nil, Nat.reduceAdd, Nat.reduceSub, Array.replicate_succ, Array.replicate_zero, List.push_toArray, List.append_toArray, List.nil_append, List.cons_append]
  go_wp2_with fail
  refine (scores_calls _ _ _ _).mono ?_
  rintro e w' ⟨rfl, rfl⟩
  go_wp2
  have o0 : OwnsT Tryd.prog 9 3 (((w.alloc (.map #[] 0)).alloc (.cells #[.map (some w.heap.size)] 66)).alloc (.cells #[.slice A l.length c] 22)) w.heap.size (cntT []) :=
    ((OwnsT.made w Tryd.prog 9 3).kept (World.grownBy_alloc _ _ none) (by simp)).kept (World.grownBy_alloc _ _ none) (by simp)
  have b1 : Blk (((w.alloc (.map #[] 0)).alloc (.cells #[.map (some w.heap.size)] 66)).alloc (.cells #[.slice A l.length c] 22)) (w.heap.size + 1) 66 #[.map (some w.heap.size)] := by
    have := (Blk.new (w.alloc (.map #[] 0)) 66 #[.map (some w.heap.size)]).alloc (.cells #[.slice A l.length c] 22)
    rwa [World.size_alloc] at this
  have b2 : Blk (((w.alloc (.map #[] 0)).alloc (.cells #[.map (some w.heap.size)] 66)).alloc (.cells #[.slice A l.length c] 22)) (w.heap.size + 1 + 1) 22 #[.slice A l.length c] := by
    have := Blk.new ((w.alloc (.map #[] 0)).alloc (.cells #[.map (some w.heap.size)] 66)) 22 #[.slice A l.length c]
    rwa [World.size_alloc, World.size_alloc] at this
  have hB0 : Below w.heap.size w (((w.alloc (.map #[] 0)).alloc (.cells #[.map (some w.heap.size)] 66)).alloc (.cells #[.slice A l.length c] 22)) := below_alloc (below_alloc (below_alloc (Below.refl _ _) _) _) _
  have hz : (((w.alloc (.map #[] 0)).alloc (.cells #[.map (some w.heap.size)] 66)).alloc (.cells #[.slice A l.length c] 22)).heap.size = w.heap.size + 3 := by simp
  generalize hW0 : World.alloc _ (.cells #[.slice A l.length c] 22) = W0 at o0 b1 b2 hB0 hz ⊢
  clear hW0
  refine (wpIn_wide (n := 7)).1 ?_
  refine wpIn_rangeFunc_ownH rfl (by omega) (gf := 46) (lb := #[.pointer (some ⟨w.heap.size + 1 + 1, 0, none⟩)]) rfl trivial (enters_of Tryd.func46 (by kernel_rfl) rfl)
    (scores_stops l HL.out A c w HC.out (w.heap.size + 1 + 1) W0 hB0 (by omega) (b2.cell 0)) belowK_t (belowK_b (by omega)) (Below.refl _ _) (fun _ => rfl)
    (fun pre W => (OwnsT Tryd.prog 9 3 W w.heap.size (cntT (pre.map (pairAt l))) ∧ Blk W (w.heap.size + 1) 66 #[.map (some w.heap.size)] ∧ Blk W (w.heap.size + 1 + 1) 22 #[.slice A l.length c]) ∧ Below w.heap.size w W)
    (fun _ _ _ => False)
    (OwnFrom.and (OwnFrom.and (OwnsT.ownFrom (by omega) (fun pre : List Nat => cntT (pre.map (pairAt l)))) (Own.from (fun s X Y row hs hg hr => ⟨Blk.own _ _ (fun _ : Unit => _) () X Y row hs.1 hg hr, Blk.own _ _ (fun _ : Unit => _) () X Y row hs.2 hg hr⟩) _)) (ownFrom_below (Nat.le_refl _) (by omega)))
    (fun _ _ _ _ _ hs _ _ => hs)
    ⟨⟨o0, b1, b2⟩, hB0⟩
    (fun x a' W => ∃ Bx, w.heap.size + 2 < Bx ∧ Blk W Bx 36 #[.string (pairAt l x).2.f0, .int .i64 (pairAt l x).2.f1] ∧ a' = { tmps := #[.slice A l.length c, undef, .map none, .pointer (some ⟨w.heap.size + 1, 0, none⟩), undef, .pointer (some ⟨Bx, 0, none⟩), .map (some w.heap.size), .slice A l.length c, .func (.func 46) #[] #[.pointer (some ⟨w.heap.size + 1 + 1, 0, none⟩)], .int .i64 (pairAt l x).1, .agg #[.string (pairAt l x).2.f0, .int .i64 (pairAt l x).2.f1], undef, undef, undef, undef, undef, undef], defers := [] })
    (fun x a' => Own.from (fun s X Y row hs hg hr => by
      obtain ⟨Bx, h1, h2, h3⟩ := hs
      exact ⟨Bx, h1, Blk.own _ _ (fun _ : Unit => _) () X Y row h2 hg hr, h3⟩) _)
    ?assign ?body ?done ?stop
  case assign =>
    rintro lp pre x W K ⟨⟨c0, c1, c2⟩, hB⟩ hK
    simp only [encN, encP] at hK ⊢
    gi_wp2
    exact hK _ _ ((KeepsOthers.alloc _ _).from _) ((Below.refl _ W).alloc hB.size _) ⟨⟨c0.kept (World.grownBy_alloc _ _ none) (by simp), c1.alloc _, c2.alloc _⟩, below_alloc hB _⟩ ⟨W.heap.size, by have := c2.lt; omega, Blk.new W 36 _, rfl⟩
  case body =>
    rintro lp pre x a' W hl hrec ⟨⟨c0, c1, c2⟩, hB⟩ ⟨Bx, hBx, bX, rfl⟩ hlt
    have HS : Aside0 (cntT ((pre ++ [x]).map (pairAt l)) = cntS (cntT (pre.map (pairAt l))) (pairAt l x)) := ⟨by rw [List.map_append, List.map_singleton, cntT_snoc]⟩
    obtain ⟨k1, k2⟩ := cnt_bound (pre.map (pairAt l))
    rw [List.length_map] at k1 k2
    have hGE := pairAt_good HL.out x
    have hlt2 : pre.length < 1000000 := by have := HN.out; omega
    clear hlt
    generalize cntT (pre.map (pairAt l)) = T at c0 HS k1 k2
    generalize pairAt l x = y at bX HS hGE ⊢
    obtain ⟨h3, h4⟩ := k2 y.2.f0
    have HG1 := Aside0.mk hGE.1
    have hX0 : W.cell? ⟨Bx, 0, none⟩ = some (.string y.2.f0) := bX.cell 0
    have hM : W.cell? ⟨w.heap.size + 1, 0, none⟩ = some (.map (some w.heap.size)) := c1.cell 0
    have HC0 := Aside0.mk c0
    have HK1 : Aside0 (T.length < maxLen) := ⟨by unfold maxLen; omega⟩
    have hcv : IntKind.i64.wrap ((getT T y.2.f0).getD 0 + 1) = (getT T y.2.f0).getD 0 + 1 := by rw [IntKind.wrap_i64]; omega
    have HWF : Aside0 ((Lit.int .i64 ((getT T y.2.f0).getD 0 + 1)).wf = true) := ⟨wfI (by omega) (by omega)⟩
    clear c0 k1 k2 hGE bX
    gi_wp2_with (first
      | (gi_at_lookup; refine wpListIn_get_own _ rfl _ _ 66 rfl 9 3 Tryd.underlying9 Tryd.underlying3 Tryd.underlying66 (zero3 _) w.heap.size _ rfl HC0.out _ rfl HG1.out ?_)
      | (gi_at_mapUpdate; refine wpListIn_put_own _ rfl _ _ _ 66 rfl 9 3 Tryd.underlying9 Tryd.underlying3 Tryd.underlying66 w.heap.size _ rfl HC0.out HK1.out _ _ rfl rfl HG1.out HWF.out ?_; intro W2 hown2 hg2))
    refine ⟨KeepsFrom.of_grownBy hg2 (fun j e => by cases e; omega), (Below.refl w.heap.size W).grown hg2 hB.size (fun k e => by cases e; exact Nat.le_refl _), ⟨by rw [HS.out]; exact hown2, c1.grown hg2 (fun e => by injection e with e; omega), c2.grown hg2 (fun e => by injection e with e; omega)⟩, hB.grown hg2 hB.size (fun k e => by cases e; exact Nat.le_refl _)⟩
  case done =>
    rintro D ys W hD rfl ⟨⟨c0, c1, c2⟩, hB⟩ hK
    rw [map_range] at c0
    have hM : W.cell? ⟨w.heap.size + 1, 0, none⟩ = some (.map (some w.heap.size)) := c1.cell 0
    have HC0 := Aside0.mk c0
    have hDl : w.heap.size < D := by omega
    clear c0
    go_wp2_with fail
    refine ⟨by simp, .inl ⟨_, _, rfl, run_takeDeferred hK, ?_⟩⟩
    refine ⟨.map (some w.heap.size), by simp [results, Tryd.f40, go_sem], ⟨w.heap.size, rfl, Nat.le_refl _, HC0.out.kept (row := some D) (grownBy_putObj' _ _ _) (by simp; omega), hB.trans (belowK_b (w := w) (Nat.le_refl _) W D _ _ (by omega) hK rfl rfl)⟩⟩
  case stop =>
    rintro D cc pre W hD hpre h _
    exact h.elim
end Go.Proofs.YtidhbpfkiapcjaaDoor.P
