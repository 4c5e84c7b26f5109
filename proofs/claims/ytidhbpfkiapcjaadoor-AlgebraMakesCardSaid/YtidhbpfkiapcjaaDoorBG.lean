/- algebra.Inter, algebra.Diff. -/
import Derived.Test.YtidhbpfkiapcjaaDoorBF
import Derived.Test.YtidhbpfkiapcjaaDoorAT
namespace Go.Proofs.YtidhbpfkiapcjaaDoor.P
open Go.RowKit Go.Lib Go.Proofs.YtidhbpfkiapcjaaDoorW.PrintWords Go.Proofs.YtidhbpfkiapcjaaDoorW.PrintLast Go.Proofs.YtidhbpfkiapcjaaDoorW.PrintMore Go.Proofs.YtidhbpfkiapcjaaDoor.Pure
attribute [local go_sem] Oper.semAt_some

theorem two_C (a b : Int) (W : World) : Kd.C (Kd.int .i64) (W.alloc (.cells #[.int .i64 a, .int .i64 b] 3)) (some ⟨W.heap.size, 0, none⟩) 2 [a, b] := by
  refine Kd.C_of_reads (d := (0 : Int)) ⟨by simp, by decide, fun _ => ⟨_, rfl, fun j hj => ?_⟩⟩
  have h1 : (W.alloc (.cells #[.int .i64 a, .int .i64 b] 3)).heap[W.heap.size]? = some (.cells #[.int .i64 a, .int .i64 b] 3) := World.alloc_heap_new W _
  rw [add_own]
  simp only [World.cell?, h1]
  rcases j with _ | _ | j
  · rfl
  · rfl
  · omega
theorem eq1'' (p : Addr) (w : World) : (eqGuard .neq 42 (.tmp 10) (.const .nilIface) (erV p) .nilIface).run Tryd.prog w = .ok () w := by kernel_rfl
/-- In how many sets a member must be, to be in all. -/
def leastI (l : List (List S36)) : Int := if (l.length : Int) = 0 then 1 else (l.length : Int)

set_option maxHeartbeats 8000000 in
set_option maxRecDepth 100000 in
theorem inter_calls (l : List (List S36)) (hl : GoodL l) (hlen : (pairs l).length ≤ 1000000) (ws : List Int) (agg : Int) (hagg : W64 agg) (A : Option Addr) (c : Nat) (A2 : Option Addr) (c2 : Nat) (p q : Addr) (w : World) (hG : G2 p q w) (hC : Kd.C (Kd.slice 36 k36) w A l.length l) (hC2 : Kd.C (Kd.int .i64) w A2 ws.length ws) (hws : ws.length ≤ maxLen) :
    Calls Tryd.prog 14 #[.slice A l.length c, .slice A2 ws.length c2, .int .i64 agg] w fun e w' => ∃ v : Value, e = .returned (.tuple #[v, .int .i64 (madeF l ws agg (leastI l)).2]) ∧ Kd.R k36 36 w' w.heap.size (fun k => w.heap.size ≤ k) v (madeF l ws agg (leastI l)).1 ∧ Below w.heap.size w w' := by
  have hm := fun (w1 : World) (b1 : Below w.heap.size w w1) => made_calls l hl hlen ws agg (leastI l) hagg A c A2 c2 p q w1 (hG.on b1).g (Kd.C_below hC b1) (Kd.C_below hC2 b1) hws
  have HM := Aside0.mk hm
  have he := madeF_err l ws agg (leastI l)
  have HG := Aside0.mk hG
  have HOR := Aside0.mk (cmp_Or_int.calls 5 (some ⟨w.heap.size, 0, none⟩) 2 [(l.length : Int), 1] (leastI l) _ (two_C (l.length : Int) 1 w) (by simp) (or_own (l.length : Int) 1 5 (by omega)))
  clear hl hlen hagg hG hC hC2 hws hm
  generalize leastI l = lst at HM he HOR ⊢
  generalize madeF l ws agg lst = m at HM he ⊢
  obtain ⟨xs, n⟩ := m
  simp only at HM he ⊢
  go_enter Tryd.func14, Tryd.ntmps14
  go_wp2_with fail
  refine HOR.out.mono ?_
  rintro e w1 ⟨rfl, ⟨⟨k, rfl⟩⟩⟩
  have B0 : Aside0 (Below w.heap.size w ((w.alloc (.cells #[.int .i64 l.length, .int .i64 1] 3)).drewN k)) := ⟨(below_alloc (Below.refl _ _) _).trans (show Below w.heap.size (w.alloc (.cells #[.int .i64 l.length, .int .i64 1] 3)) _ from ⟨rfl, rfl, rfl, Nat.le_refl _, fun _ _ => rfl⟩)⟩
  have HM1 := Aside0.mk (HM.out _ B0.out)
  clear HM HOR
  go_wp2_with fail
  refine HM1.out.mono ?_
  rintro e w2 ⟨v, rfl, hR, b1⟩
  have B1 := Aside0.mk (B0.out.trans (b1.mono B0.out.size))
  have HR := Aside0.mk (Kd.R_mono (Kd.R_lower hR B0.out.size) (ok' := fun k => w.heap.size ≤ k) (fun k hk => by have := B0.out.size; omega))
  have HT := Aside0.mk (told_calls p q n he w2 (HG.out.on B1.out))
  generalize errOf p q n = ev at HT ⊢
  clear b1 hR HM1
  go_wp2_with fail
  refine HT.out.mono ?_
  rintro e w3 ⟨rfl, rfl⟩
  go_wp2_with fail
  go_ret2
  exact ⟨_, rfl, HR.out, B1.out⟩

/-- What is left of the first set. -/
def delS (T : List (ByteArray × Int)) (p : Nat × S36) : List (ByteArray × Int) := if 0 < p.1 then delT T p.2.f0 else T
def leftT (l : List (List S36)) : List (ByteArray × Int) := (pairs l).foldl delS (tabT (l.getD 0 []))
def diffF (l : List (List S36)) : List S36 × Int := if setsB l = true then (sortT (leftT l), 0) else ([], 120)
theorem delS_len (T : List (ByteArray × Int)) (p : Nat × S36) : (delS T p).length ≤ T.length := by
  unfold delS
  split
  · exact del_len _ _
  · exact Nat.le_refl _
theorem foldD_len (ps : List (Nat × S36)) : ∀ T : List (ByteArray × Int), (ps.foldl delS T).length ≤ T.length := by
  induction ps with
  | nil => intro T; exact Nat.le_refl _
  | cons p ps ih => intro T; exact Nat.le_trans (ih _) (delS_len T p)

set_option maxHeartbeats 8000000 in
set_option maxRecDepth 100000 in
theorem diff_calls (l : List (List S36)) (hl : GoodL l) (hlen : (pairs l).length ≤ 1000000) (A : Option Addr) (c : Nat) (p q : Addr) (w : World) (hG : G2 p q w) (hC : Kd.C (Kd.slice 36 k36) w A l.length l) :
    Calls Tryd.prog 16 #[.slice A l.length c] w fun e w' => ∃ v : Value, e = .returned (.tuple #[v, .int .i64 (diffF l).2]) ∧ Kd.R k36 36 w' w.heap.size (fun k => w.heap.size ≤ k) v (diffF l).1 ∧ Below w.heap.size w w' := by
  have HC := Aside0.mk hC
  have HL := Aside0.mk hl
  have HN := Aside0.mk hlen
  have HG := Aside0.mk hG
  have HCH := Aside0.mk (check_calls l A c p q w hG.g hC hl)
  have HD : Aside0 (diffF l = if setsB l = true then (sortT (leftT l), 0) else ([], 120)) := ⟨rfl⟩
  clear hC hl hlen hG
  cases hsb : setsB l
  · rw [HD.out, hsb, if_neg (by simp)]
    rw [hsb] at HCH
    rw [if_neg (by simp)] at HCH
    clear HD
    have hq1 := eq1'' p
    have hq2 := eq2 p
    go_enter Tryd.func16, Tryd.ntmps16
    go_wp2_with fail
    refine HCH.out.mono ?_
    rintro e w1 ⟨rfl, b1⟩
    have B1 := Aside0.mk b1
    have HT := Aside0.mk (told_calls p q 120 (.inr (.inr rfl)) w1 (HG.out.on b1))
    rw [show errOf p q 120 = erV p from rfl] at HT
    clear b1
    go_wp2_with fail
    refine HT.out.mono ?_
    rintro e w3 ⟨rfl, rfl⟩
    go_wp2_with fail
    go_ret2
    exact ⟨_, rfl, Kd.R_nil _ _ _ _ _, B1.out⟩
  · rw [HD.out, hsb, if_pos rfl]
    rw [hsb, if_pos rfl] at HCH
    clear HD
    have hpos : 0 < l.length := by unfold setsB at hsb; simp at hsb; exact hsb.1
    clear hsb
    refine calls_of_wp_marks 8 Tryd.func16 rfl ?_
    simp only [Tryd.ntmps16, List.size_toArray, List.length_cons, List.length_nil, Nat.reduceAdd, Nat.reduceSub, Array.replicate_succ, Array.replicate_zero, List.push_toArray, List.append_toArray, List.nil_append, List.cons_append]
    go_wp2_with fail
    refine HCH.out.mono ?_
    rintro e w1 ⟨rfl, b1⟩
    have B1 := Aside0.mk b1
    clear b1 HCH
    have hp1 : (0 : Int) < (l.length : Int) := by omega
    have hcw := Kd.C_below HC.out B1.out
    obtain ⟨ad, A0, c0, e, hx, hc0, hC0⟩ := at_L3 hcw 0 (Int.le_refl 0) hp1
    subst e
    rw [show (0 : Int).toNat = 0 from rfl, show ad.add 0 = ad from by cases ad; simp [Addr.add]] at hx
    have hg0 := HL.out.2 (rd_L3 l 0) (by unfold rd_L3; rw [show (0 : Int).toNat = 0 from rfl, List.getD_eq_getElem?_getD, List.getElem?_eq_getElem hpos]; exact List.getElem_mem hpos)
    have HX : Aside0 (rd_L3 l 0 = l.getD 0 []) := ⟨rfl⟩
    have HT := Aside0.mk (table_calls (rd_L3 l 0) A0 c0 w1 hC0 hg0.1 hg0.2)
    clear hcw hc0 hC0
    have hd0 : ¬ (l.length : Int) = 0 := by omega
    go_wp2_with fail
    refine HT.out.mono ?_
    rintro e w2 ⟨bt, rfl, hbt, hot, b2⟩
    have HO := Aside0.mk hot
    have B2 := Aside0.mk (B1.out.trans (b2.mono B1.out.size))
    have HBT : Aside0 (w.heap.size ≤ bt) := ⟨by have := B1.out.size; omega⟩
    clear hot b2 HT
    go_wp2_with fail
    refine (scores_calls _ _ _ _).mono ?_
    rintro e w3 ⟨rfl, rfl⟩
    go_wp2_with fail
    have HBT2 : Aside0 (bt < w2.heap.size) := ⟨HO.out.lt⟩
    have o1 := (HO.out.kept (World.grownBy_alloc w2 (.cells #[.map (some bt)] 49) none) (by simp)).kept (World.grownBy_alloc _ (.cells #[.slice (some ad) l.length c] 22) none) (by simp)
    have y1 : Blk ((w2.alloc (.cells #[.map (some bt)] 49)).alloc (.cells #[.slice (some ad) l.length c] 22)) w2.heap.size 49 #[.map (some bt)] := (Blk.new w2 49 _).alloc _
    have y2 : Blk ((w2.alloc (.cells #[.map (some bt)] 49)).alloc (.cells #[.slice (some ad) l.length c] 22)) (w2.heap.size + 1) 22 #[.slice (some ad) l.length c] := by
      have := Blk.new (w2.alloc (.cells #[.map (some bt)] 49)) 22 #[.slice (some ad) l.length c]
      rwa [World.size_alloc] at this
    have hz : ((w2.alloc (.cells #[.map (some bt)] 49)).alloc (.cells #[.slice (some ad) l.length c] 22)).heap.size = w2.heap.size + 2 := by simp
    have hB0 : Below w.heap.size w ((w2.alloc (.cells #[.map (some bt)] 49)).alloc (.cells #[.slice (some ad) l.length c] 22)) := below_alloc (below_alloc B2.out _) _
    have hb1 := HBT.out
    have hb2 := HBT2.out
    clear HO B2 HBT HBT2 hx hd0
    generalize hW0 : World.alloc _ (.cells #[.slice (some ad) l.length c] 22) = W0 at o1 y1 y2 hz hB0 ⊢
    clear hW0
    generalize w2.heap.size = h at o1 y1 y2 hz hB0 hb2 ⊢
    have hh : w.heap.size ≤ h := by omega
    clear w2 B1 hbt w1
    have HLT : Aside0 ((tabT (rd_L3 l 0)).length ≤ 1000000) := ⟨by
      have h1 := take_len (rd_L3 l 0) (rd_L3 l 0).length (Nat.le_refl _)
      rw [List.take_length] at h1
      have h2 : (rd_L3 l 0).length ≤ (pairs l).length := by
        rw [HX.out]
        cases l with
        | nil => exact absurd hpos (by simp)
        | cons x r => show x.length ≤ _; unfold pairs pairsF; rw [List.length_append, List.length_map]; omega
      have := HN.out
      omega⟩
    generalize hT0 : tabT (rd_L3 l 0) = T0 at o1 HLT
    have HT0 : Aside0 (T0 = tabT (l.getD 0 [])) := ⟨by rw [← hT0, HX.out]⟩
    clear hT0
    refine (wpIn_wide (n := 7)).1 ?_
    refine wpIn_rangeFunc_ownH rfl (by omega) (gf := 46) (lb := #[.pointer (some ⟨h + 1, 0, none⟩)]) rfl trivial (enters_of Tryd.func46 (by kernel_rfl) rfl)
      (scores_stops l HL.out (some ad) c w HC.out (h + 1) W0 hB0 (by omega) (y2.cell 0)) belowK_t (belowK_b (by omega)) (Below.refl _ _) (fun _ => rfl)
      (fun pre W => (OwnsT Tryd.prog 9 2 W bt ((pre.map (pairAt l)).foldl delS T0) ∧ Blk W h 49 #[.map (some bt)] ∧ Blk W (h + 1) 22 #[.slice (some ad) l.length c]) ∧ Below w.heap.size w W)
      (fun _ _ _ => False)
      (OwnFrom.and (OwnFrom.and (OwnsT.ownFrom (by omega) (fun pre : List Nat => (pre.map (pairAt l)).foldl delS T0)) (Own.from (fun s X Y row hs hg hr => ⟨Blk.own _ _ (fun _ : Unit => _) () X Y row hs.1 hg hr, Blk.own _ _ (fun _ : Unit => _) () X Y row hs.2 hg hr⟩) _)) (ownFrom_below (Nat.le_refl _) (by omega)))
      (fun _ _ _ _ _ hs _ _ => hs)
      ⟨⟨o1, y1, y2⟩, hB0⟩
      (fun x a' W => ∃ Bx, h + 1 < Bx ∧ Blk W Bx 36 #[.string (pairAt l x).2.f0, .int .i64 (pairAt l x).2.f1] ∧ a' = { tmps := #[.slice (some ad) l.length c, undef, .slice none 0 0, .int .i64 0, .nilIface, .pointer (some ⟨h, 0, none⟩), .int .i64 (pairAt l x).1, .pointer (some ⟨Bx, 0, none⟩), .slice (some ad) l.length c, .nilIface, .nilIface, .bool false, undef, undef, .slice (some ad) l.length c, .pointer (some ad), .slice A0 (rd_L3 l 0).length c0, .map (some bt), .slice (some ad) l.length c, .func (.func 46) #[] #[.pointer (some ⟨h + 1, 0, none⟩)], .int .i64 (pairAt l x).1, .agg #[.string (pairAt l x).2.f0, .int .i64 (pairAt l x).2.f1], undef, undef, undef, undef, undef, undef, undef], defers := [] })
      (fun x a' => Own.from (fun s X Y row hs hg hr => by
        obtain ⟨Bx, h1, h2, h3⟩ := hs
        exact ⟨Bx, h1, Blk.own _ _ (fun _ : Unit => _) () X Y row h2 hg hr, h3⟩) _)
      ?assign ?body ?done ?stop
    case assign =>
      rintro lp pre x W K ⟨⟨c0, c1, c2⟩, hB⟩ hK
      simp only [encN, encP] at hK ⊢
      gi_wp2
      exact hK _ _ ((KeepsOthers.alloc _ _).from _) ((Below.refl _ W).alloc hB.size _) ⟨⟨c0.kept (World.grownBy_alloc _ _ none) (by simp), c1.alloc _, c2.alloc _⟩, below_alloc hB _⟩ ⟨W.heap.size, by have := c2.lt; omega, Blk.new W 36 _, rfl⟩
    case body =>
      rintro lp pre x a' W hlp hrec ⟨⟨c0, c1, c2⟩, hB⟩ ⟨Bx, hBx, bX, rfl⟩ hlt
      have HS : Aside0 (((pre ++ [x]).map (pairAt l)).foldl delS T0 = delS ((pre.map (pairAt l)).foldl delS T0) (pairAt l x)) := ⟨by rw [List.map_append, List.map_singleton, List.foldl_append]; rfl⟩
      have hGE := pairAt_good HL.out x
      generalize (pre.map (pairAt l)).foldl delS T0 = T at c0 HS
      generalize pairAt l x = y at bX HS hGE ⊢
      have HG1 := Aside0.mk hGE.1
      have hX0 : W.cell? ⟨Bx, 0, none⟩ = some (.string y.2.f0) := bX.cell 0
      have hM : W.cell? ⟨h, 0, none⟩ = some (.map (some bt)) := c1.cell 0
      have HC0 := Aside0.mk c0
      have HZ := Aside0.mk hz
      clear c0 bX hlt hGE hz
      by_cases hy : 0 < y.1
      · have hyi : (0 : Int) < (y.1 : Int) := by omega
        have HS2 : Aside0 (delS T y = delT T y.2.f0) := ⟨by unfold delS; rw [if_pos hy]⟩
        gi_wp2_with (first
          | (gi_at_delete; refine wpListIn_del_own _ rfl _ _ 49 9 rfl 2 Tryd.underlying9 Tryd.underlying49 bt _ rfl HC0.out _ rfl HG1.out ?_; intro W2 hown2 hg2))
        have hg3 := hg2.grown
        refine ⟨KeepsFrom.of_grownBy hg3 (fun j e => by cases e; have := HZ.out; omega), (Below.refl w.heap.size W).grown hg3 hB.size (fun k e => by cases e; omega), ⟨by rw [HS.out, HS2.out]; exact hown2, c1.grown hg3 (fun e => by injection e with e; omega), c2.grown hg3 (fun e => by injection e with e; omega)⟩, hB.grown hg3 hB.size (fun k e => by cases e; omega)⟩
      · have hyi : ¬ (0 : Int) < (y.1 : Int) := by omega
        have HS2 : Aside0 (delS T y = T) := ⟨by unfold delS; rw [if_neg hy]⟩
        gi_wp2_with fail
        refine ⟨KeepsFrom.refl _ _, Below.refl _ _, ⟨by rw [HS.out, HS2.out]; exact HC0.out, c1, c2⟩, hB⟩
    case done =>
      rintro D ys W hD rfl ⟨⟨c0, c1, c2⟩, hB⟩ hK
      rw [map_range] at c0
      have hmT : ((pairs l).foldl delS T0).length ≤ 1000000 := Nat.le_trans (foldD_len _ _) HLT.out
      have HLL : Aside0 ((pairs l).foldl delS T0 = leftT l) := ⟨by rw [HT0.out]; rfl⟩
      generalize (pairs l).foldl delS T0 = T at c0 hmT HLL
      have HK := Aside0.mk hK
      have hD2 : h + 2 ≤ D := by omega
      have hc2 : W.cell? ⟨h, 0, none⟩ = some (.map (some bt)) := c1.cell 0
      have HLI := Aside0.mk (list_calls T bt W c0 (by omega))
      have HB := Aside0.mk hB
      clear hK c0 hB
      go_wp2_with fail
      refine HLI.out.mono ?_
      rintro e w5 ⟨v, S, rfl, hS, hR, b5⟩
      have hK5 := (b5.block D (Array.getElem?_eq_some_iff.1 HK.out).1).trans HK.out
      have HDL := (Array.getElem?_eq_some_iff.1 HK.out).1
      go_wp2_with fail
      refine ⟨by simp, .inl ⟨_, _, rfl, run_takeDeferred hK5, ?_⟩⟩
      refine ⟨.tuple #[v, .int .i64 0], by simp [results, Tryd.f16, go_sem], ⟨v, rfl, ?_, ?_⟩⟩
      · show Kd.R _ _ _ _ _ _ (sortT (leftT l))
        rw [← HLL.out, ← sortT_of hS]
        have hR2 := Kd.R_grown hR (grownBy_putObj' w5 D (.deferred none)) (fun k hk e => by injection e with e; omega)
        exact Kd.R_mono (Kd.R_lower hR2 (show w.heap.size ≤ W.heap.size + 1 by have := HB.out.size; omega)) (ok' := fun k => w.heap.size ≤ k) (fun k hk => by have := HB.out.size; omega)
      · exact (HB.out.trans (b5.mono HB.out.size)).trans (belowK_b (w := w) (Nat.le_refl _) w5 D _ _ (by omega) hK5 rfl rfl)
    case stop =>
      rintro D cc pre W hD hpre h _
      exact h.elim
end Go.Proofs.YtidhbpfkiapcjaaDoor.P
