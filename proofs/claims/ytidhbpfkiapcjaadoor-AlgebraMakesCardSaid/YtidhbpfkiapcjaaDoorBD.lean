/- algebra.made. -/
import Derived.Test.YtidhbpfkiapcjaaDoorPureM
import Derived.Test.YtidhbpfkiapcjaaDoorML
import Derived.Test.YtidhbpfkiapcjaaDoorBE
import Derived.Sort.CutIn
namespace Go.Proofs.YtidhbpfkiapcjaaDoor.P
open Go Go.Maps Go.RowKit Go.Lib Go.Proofs.YtidhbpfkiapcjaaDoorW.PrintWords Go.Proofs.YtidhbpfkiapcjaaDoorW.PrintLast Go.Proofs.YtidhbpfkiapcjaaDoorW.PrintMore Go.Proofs.YtidhbpfkiapcjaaDoor.Pure
attribute [local go_sem] Oper.semAt_some

theorem wide_fn (f : FuncId) : Fence.wide.fn f = True := rfl
attribute [local go_sem, local simp] wide_fn
theorem zero62 (w : World) : (zeroValue 62).run Tryd.prog w = .ok .nilFunc w := by kernel_rfl
theorem eq1 (p : Addr) (w : World) : (eqGuard .neq 42 (.tmp 30) (.const .nilIface) (erV p) .nilIface).run Tryd.prog w = .ok () w := by kernel_rfl
theorem eq1' (p : Addr) (w : World) : (eqGuard .neq 42 (.tmp 93) (.const .nilIface) (erV p) .nilIface).run Tryd.prog w = .ok () w := by kernel_rfl
theorem sortT_of {S T : List (ByteArray × Int)} (h : S.Perm T) : (S.map toE).mergeSort (fun x y => !lessE y x) = sortT T := sort_perm (h.map toE)
theorem eq2 (p : Addr) (w : World) : (binOp .neq 42 (erV p) .nilIface).run Tryd.prog w = .ok (.bool true) w := by kernel_rfl
/-- The error of a number. -/
def errOf (p q : Addr) (n : Int) : Value := if n = 120 then erV p else if n = 11 then erV q else .nilIface

theorem pairsF_lt : ∀ (l : List (List S36)) (i : Nat) (p : Nat × S36), p ∈ pairsF i l → i ≤ p.1 ∧ p.1 < i + l.length
  | [], _, _, h => by cases h
  | x :: r, i, p, h => by
    rw [List.length_cons]
    rcases List.mem_append.1 h with h | h
    · obtain ⟨e, he, rfl⟩ := List.mem_map.1 h
      exact ⟨Nat.le_refl _, by show i < _; omega⟩
    · have := pairsF_lt r (i + 1) p h
      omega
theorem pairAt_lt (l : List (List S36)) (h : 0 < l.length) (k : Nat) : (pairAt l k).1 < l.length := by
  unfold pairAt
  rw [List.getD_eq_getElem?_getD]
  cases e : (pairs l)[k]? with
  | none => exact h
  | some p => have := pairsF_lt l 0 p (List.mem_of_getElem? e); show p.1 < _; omega
/-- What made holds in memory while it goes through the entries. -/
structure MI (o h bF bc : Nat) (ls wsv : Value) (least : Int) (fn : Nat) (cnt : List (ByteArray × Int)) (wrong : Value) (T : List (ByteArray × Int)) (W : World) : Prop where
  out : OwnsT Tryd.prog 9 2 W (h + 1) T
  cnt : OwnsT Tryd.prog 9 3 W bc cnt
  x0 : Blk W o 23 #[wsv]
  x1 : Blk W (o + 1) 3 #[.int .i64 least]
  x2 : Blk W bF 62 #[.func (.func fn) #[] #[]]
  y0 : Blk W h 66 #[.map (some bc)]
  y1 : Blk W (h + 1 + 1) 49 #[.map (some (h + 1))]
  y2 : Blk W (h + 1 + 1 + 1) 42 #[wrong]
  y3 : Blk W (h + 1 + 1 + 1 + 1) 22 #[ls]
theorem MI.keep {o h bF bc : Nat} {ls wsv : Value} {least : Int} {fn : Nat} {cnt : List (ByteArray × Int)} {wrong : Value} {T : List (ByteArray × Int)} {W W' : World} {row : Option Nat} (m : MI o h bF bc ls wsv least fn cnt wrong T W) (hg : W.grownBy W' row) (hr : ∀ r, row = some r → h + 5 ≤ r) (h1 : bF < h) (h2 : bc < h) (h3 : o + 1 < bF) : MI o h bF bc ls wsv least fn cnt wrong T W' where
  out := m.out.kept hg (fun e => by have := hr _ e.symm; omega)
  cnt := m.cnt.kept hg (fun e => by have := hr _ e.symm; omega)
  x0 := m.x0.grown hg (fun e => by have := hr _ e.symm; omega)
  x1 := m.x1.grown hg (fun e => by have := hr _ e.symm; omega)
  x2 := m.x2.grown hg (fun e => by have := hr _ e.symm; omega)
  y0 := m.y0.grown hg (fun e => by have := hr _ e.symm; omega)
  y1 := m.y1.grown hg (fun e => by have := hr _ e.symm; omega)
  y2 := m.y2.grown hg (fun e => by have := hr _ e.symm; omega)
  y3 := m.y3.grown hg (fun e => by have := hr _ e.symm; omega)
theorem MI.put {o h bF bc : Nat} {ls wsv : Value} {least : Int} {fn : Nat} {cnt : List (ByteArray × Int)} {wrong : Value} {T T' : List (ByteArray × Int)} {W W' : World} (m : MI o h bF bc ls wsv least fn cnt wrong T W) (hg : W.grownBy W' (some (h + 1))) (ho : OwnsT Tryd.prog 9 2 W' (h + 1) T') (h1 : bF < h) (h2 : bc < h) (h3 : o + 1 < bF) : MI o h bF bc ls wsv least fn cnt wrong T' W' where
  out := ho
  cnt := m.cnt.kept hg (fun e => by injection e with e; omega)
  x0 := m.x0.grown hg (fun e => by injection e with e; omega)
  x1 := m.x1.grown hg (fun e => by injection e with e; omega)
  x2 := m.x2.grown hg (fun e => by injection e with e; omega)
  y0 := m.y0.grown hg (fun e => by injection e with e; omega)
  y1 := m.y1.grown hg (fun e => by injection e with e; omega)
  y2 := m.y2.grown hg (fun e => by injection e with e; omega)
  y3 := m.y3.grown hg (fun e => by injection e with e; omega)
theorem MI.drewN {o h bF bc : Nat} {ls wsv : Value} {least : Int} {fn : Nat} {cnt : List (ByteArray × Int)} {wrong : Value} {T : List (ByteArray × Int)} {W : World} (m : MI o h bF bc ls wsv least fn cnt wrong T W) (n : Nat) (h1 : bF < h) (h2 : bc < h) (h3 : o + 1 < bF) : MI o h bF bc ls wsv least fn cnt wrong T (W.drewN n) :=
  m.keep (row := none) ⟨rfl, rfl, rfl, Nat.le_refl _, fun _ _ _ => rfl⟩ (fun r e => by cases e) h1 h2 h3
theorem foldM_len (cnt : List (ByteArray × Int)) (least : Int) (ws : List Int) (agg : Int) : ∀ (ps : List (Nat × S36)) (T T' : List (ByteArray × Int)), foldM cnt least ws agg T ps = some T' → T'.length ≤ T.length + ps.length
  | [], T, T', h => by cases h; exact Nat.le_refl _
  | p :: ps, T, T', h => by
    rw [foldM] at h
    obtain ⟨T1, h1, h2⟩ := Option.bind_eq_some_iff.1 h
    have := foldM_len cnt least ws agg ps T1 T' h2
    have h3 : T1.length ≤ T.length + 1 := by
      unfold stepM at h1
      repeat' split at h1
      all_goals first | (cases h1; done) | (cases h1; first | exact put_len _ _ _ | omega)
    rw [List.length_cons]
    omega
def tabM (l : List (List S36)) (ws : List Int) (agg least : Int) (pre : List Nat) : List (ByteArray × Int) := (foldM (cntT (pairs l)) least ws agg [] (pre.map (pairAt l))).getD []
theorem wpList_way_some {w : World} {ops : Array Oper} {rest : List Oper} {o : Oper} {a : Act} {Q : Exit → Act → World → Prop} (agg : Int) (hagg : W64 agg) (f : Int) (hf : wayN agg = some f) (hg : o.guard = none) (m x : Operand) (hop : o.op = Op.lookup 64 m x true) (b : Nat) (hm : a.eval m = .map (some b)) (hown : w.ownsMap Tryd.prog 3 fnE b 3 waysD) (hx : a.eval x = .int .i64 agg)
    (hK : wpList Tryd.prog ops Q rest (a.put o.dst (.tuple #[.func (.func f.toNat) #[] #[], .bool true])) w) : wpList Tryd.prog ops Q (o :: rest) a w := by
  obtain ⟨hat, hhas⟩ := waysD_at agg
  rw [hf] at hat hhas
  refine wpList_lookup_own_ok _ hg m x 64 hop 3 62 (int_keyed Tryd.underlying3) Tryd.underlying64 fnE (zero62 _) .nil [] rfl b 3 _ hm hown _ _ hx (key3 agg hagg) ?_
  intro v ps hv
  rw [hat] at hv
  rw [hhas, fnE_inv hv]
  exact hK
theorem wpList_way_none {w : World} {ops : Array Oper} {rest : List Oper} {o : Oper} {a : Act} {Q : Exit → Act → World → Prop} (agg : Int) (hagg : W64 agg) (hf : wayN agg = none) (hg : o.guard = none) (m x : Operand) (hop : o.op = Op.lookup 64 m x true) (b : Nat) (hm : a.eval m = .map (some b)) (hown : w.ownsMap Tryd.prog 3 fnE b 3 waysD) (hx : a.eval x = .int .i64 agg)
    (hK : wpList Tryd.prog ops Q rest (a.put o.dst (.tuple #[.nilFunc, .bool false])) w) : wpList Tryd.prog ops Q (o :: rest) a w := by
  obtain ⟨hat, hhas⟩ := waysD_at agg
  rw [hf] at hat hhas
  refine wpList_lookup_own_ok _ hg m x 64 hop 3 62 (int_keyed Tryd.underlying3) Tryd.underlying64 fnE (zero62 _) .nil [] rfl b 3 _ hm hown _ _ hx (key3 agg hagg) ?_
  intro v ps hv
  rw [hat] at hv
  rw [hhas, fnE_nil hv]
  exact hK

set_option maxHeartbeats 8000000 in
set_option maxRecDepth 100000 in
theorem made_calls (l : List (List S36)) (hl : GoodL l) (hlen : (pairs l).length ≤ 1000000) (ws : List Int) (agg least : Int) (hagg : W64 agg) (A : Option Addr) (c : Nat) (A2 : Option Addr) (c2 : Nat) (p q : Addr) (w : World) (hG : G p q w) (hC : Kd.C (Kd.slice 36 k36) w A l.length l) (hC2 : Kd.C (Kd.int .i64) w A2 ws.length ws) (hws : ws.length ≤ maxLen) :
    Calls Tryd.prog 24 #[.slice A l.length c, .slice A2 ws.length c2, .int .i64 agg, .int .i64 least] w fun e w' => ∃ v : Value, e = .returned (.tuple #[v, errOf p q (madeF l ws agg least).2]) ∧ Kd.R k36 36 w' w.heap.size (fun k => w.heap.size ≤ k) v (madeF l ws agg least).1 ∧ Below w.heap.size w w' := by
  have HC := Aside0.mk hC
  have HC2 := Aside0.mk hC2
  have HL := Aside0.mk hl
  have HN := Aside0.mk hlen
  have HG := Aside0.mk hG
  have HWS := Aside0.mk hws
  have HBAD : Aside0 (¬ (setsB l = true ∧ (wayN agg).isSome = true ∧ ws.length = l.length) → madeF l ws agg least = ([], 120)) := ⟨fun h => by unfold madeF; rw [if_neg h]⟩
  clear hC hC2 hl hlen hG hws
  cases hwn : wayN agg with
  | none =>
    rw [hwn] at HBAD
    rw [HBAD.out (by simp)]
    clear HBAD
    go_enter Tryd.func24, Tryd.ntmps24
    go_wp2_with fail
    go_step3
    go_wp2_with fail
    have B0 := Aside0.mk (below_alloc (below_alloc (Below.refl w.heap.size w) (.cells #[.slice A2 ws.length c2] 23)) (.cells #[.int .i64 least] 3))
    refine (ways_calls _).mono ?_
    rintro e w1 ⟨bw, rfl, hbw, hown, b1⟩
    have HOW := Aside0.mk hown
    have B1 := Aside0.mk b1
    clear hown b1
    go_wp2_with (first | (at_lookup; refine wpList_way_none agg hagg hwn rfl _ _ rfl bw rfl HOW.out rfl ?_))
    have B2 := Aside0.mk (below_alloc (B0.out.trans (B1.out.mono B0.out.size)) (.cells #[.nilFunc] 62))
    have HCH := Aside0.mk (check_calls l A c p q (w1.alloc (.cells #[.nilFunc] 62)) (HG.out.on B2.out) (Kd.C_below HC.out B2.out) HL.out)
    refine HCH.out.mono ?_
    clear HCH
    rintro e w2 ⟨rfl, b2⟩
    have B3 := Aside0.mk (B2.out.trans (b2.mono B2.out.size))
    have hes := (HG.out.on B3.out).es
    clear b2
    have hq1 := eq1 p
    have hq2 := eq2 p
    cases setsB l
    · rw [if_neg (by simp)]
      go_wp2
      go_upto_region 4 with fail
      go_quiet (fail)
      go_wp2
      rw [Exit.noGoto_ret]
      go_ret2
      exact ⟨_, rfl, Kd.R_nil _ _ _ _ _, B3.out.trans ⟨rfl, rfl, rfl, Nat.le_refl _, fun _ _ => rfl⟩⟩
    · rw [if_pos rfl]
      go_wp2
      go_upto_region 4 with fail
      go_quiet (fail)
      go_wp2
      rw [Exit.noGoto_ret]
      go_ret2
      exact ⟨_, rfl, Kd.R_nil _ _ _ _ _, B3.out.trans ⟨rfl, rfl, rfl, Nat.le_refl _, fun _ _ => rfl⟩⟩
  | some f =>
    rw [hwn] at HBAD
    by_cases hok : setsB l = true ∧ ws.length = l.length
    case neg =>
      rw [HBAD.out (by simp only [Option.isSome_some, true_and]; exact hok)]
      clear HBAD
      go_enter Tryd.func24, Tryd.ntmps24
      go_wp2_with fail
      go_step3
      go_wp2_with fail
      have B0 := Aside0.mk (below_alloc (below_alloc (Below.refl w.heap.size w) (.cells #[.slice A2 ws.length c2] 23)) (.cells #[.int .i64 least] 3))
      refine (ways_calls _).mono ?_
      rintro e w1 ⟨bw, rfl, hbw, hown, b1⟩
      have HOW := Aside0.mk hown
      have B1 := Aside0.mk b1
      clear hown b1
      generalize hn : f.toNat = fn
      go_wp2_with (first | (at_lookup; refine wpList_way_some agg hagg f hwn rfl _ _ rfl bw rfl HOW.out rfl ?_; rw [hn]))
      have hz : ((w.alloc (.cells #[.slice A2 ws.length c2] 23)).alloc (.cells #[.int .i64 least] 3)).heap.size = w.heap.size + 1 + 1 := by simp
      have HBX : Aside0 (w1.cell? ⟨w.heap.size, 0, none⟩ = some (.slice A2 ws.length c2)) := ⟨(B1.out.cell (p := ⟨w.heap.size, 0, none⟩) (by rw [hz]; show w.heap.size < _; omega)).trans (by simp)⟩
      have HS1 : Aside0 (w.heap.size < w1.heap.size) := ⟨by have := B1.out.size; omega⟩
      have B2 := Aside0.mk (below_alloc (B0.out.trans (B1.out.mono B0.out.size)) (.cells #[.func (.func fn) #[] #[]] 62))
      have HCH := Aside0.mk (check_calls l A c p q (w1.alloc (.cells #[.func (.func fn) #[] #[]] 62)) (HG.out.on B2.out) (Kd.C_below HC.out B2.out) HL.out)
      refine HCH.out.mono ?_
      clear HCH
      rintro e w2 ⟨rfl, b2⟩
      have B3 := Aside0.mk (B2.out.trans (b2.mono B2.out.size))
      have hes := (HG.out.on B3.out).es
      have hbx : w2.cell? ⟨w.heap.size, 0, none⟩ = some (.slice A2 ws.length c2) := (b2.cell (p := ⟨w.heap.size, 0, none⟩) (by simp; have := HS1.out; omega)).trans ((World.cell?_alloc_lt _ _ ⟨w.heap.size, 0, none⟩ HS1.out).trans HBX.out)
      clear b2
      have hq1 := eq1 p
      have hq2 := eq2 p
      cases hsb : setsB l
      · rw [if_neg (by simp)]
        clear hok
        go_wp2
        go_upto_region 4 with fail
        go_quiet (fail)
        go_wp2
        rw [Exit.noGoto_ret]
        go_ret2
        exact ⟨_, rfl, Kd.R_nil _ _ _ _ _, B3.out.trans ⟨rfl, rfl, rfl, Nat.le_refl _, fun _ _ => rfl⟩⟩
      · rw [if_pos rfl]
        have hne : ¬ (ws.length : Int) = (l.length : Int) := fun e => hok ⟨hsb, by omega⟩
        clear hok
        go_wp2
        go_upto_region 4 with fail
        go_quiet (fail)
        go_wp2
        rw [Exit.noGoto_ret]
        go_ret2
        exact ⟨_, rfl, Kd.R_nil _ _ _ _ _, B3.out.trans ⟨rfl, rfl, rfl, Nat.le_refl _, fun _ _ => rfl⟩⟩
    case pos =>
      obtain ⟨hsb, hwl⟩ := hok
      clear HBAD
      have HM : Aside0 (madeF l ws agg least = (match foldM (cntT (pairs l)) least ws agg [] (pairs l) with | none => ([], 11) | some T => (sortT T, 0))) := ⟨by unfold madeF; rw [if_pos ⟨hsb, by rw [hwn]; rfl, hwl⟩]; rfl⟩
      have HWL := Aside0.mk hwl
      have hwl' : ((ws.length : Nat) : Int) = (l.length : Int) := by omega
      clear hwl
      refine calls_of_wp_marks 8 Tryd.func24 rfl ?_
      simp only [Tryd.ntmps24, List.size_toArray, List.length_cons, List.length_nil, Nat.reduceAdd, Nat.reduceSub, Array.replicate_succ, Array.replicate_zero, List.push_toArray, List.append_toArray, List.nil_append, List.cons_append]
      have hmm := @run_makeMap Tryd.prog
      go_wp2_with fail
      go_step3
      go_wp2_with fail
      have B0 := Aside0.mk (below_alloc (below_alloc (Below.refl w.heap.size w) (.cells #[.slice A2 ws.length c2] 23)) (.cells #[.int .i64 least] 3))
      refine (ways_calls _).mono ?_
      rintro e w1 ⟨bw, rfl, hbw, hown, b1⟩
      have HOW := Aside0.mk hown
      have B1 := Aside0.mk b1
      clear hown b1
      generalize hn : f.toNat = fn
      go_wp2_with (first | (at_lookup; refine wpList_way_some agg hagg f hwn rfl _ _ rfl bw rfl HOW.out rfl ?_; rw [hn]))
      have hz : ((w.alloc (.cells #[.slice A2 ws.length c2] 23)).alloc (.cells #[.int .i64 least] 3)).heap.size = w.heap.size + 1 + 1 := by simp
      have HS1 : Aside0 (w.heap.size + 1 < w1.heap.size) := ⟨by have := B1.out.size; omega⟩
      have HBX : Aside0 (Blk w1 w.heap.size 23 #[.slice A2 ws.length c2]) := ⟨((Blk.new w 23 #[.slice A2 ws.length c2]).alloc (.cells #[.int .i64 least] 3)).below B1.out⟩
      have HBL : Aside0 (Blk w1 (w.heap.size + 1) 3 #[.int .i64 least]) := ⟨by have := (Blk.new (w.alloc (.cells #[.slice A2 ws.length c2] 23)) 3 #[.int .i64 least]).below B1.out; rwa [World.size_alloc] at this⟩
      have B2 := Aside0.mk (below_alloc (B0.out.trans (B1.out.mono B0.out.size)) (.cells #[.func (.func fn) #[] #[]] 62))
      have HCH := Aside0.mk (check_calls l A c p q (w1.alloc (.cells #[.func (.func fn) #[] #[]] 62)) (HG.out.on B2.out) (Kd.C_below HC.out B2.out) HL.out)
      have X0 := Aside0.mk ((HBX.out.alloc (.cells #[.func (.func fn) #[] #[]] 62)))
      have X1 := Aside0.mk ((HBL.out.alloc (.cells #[.func (.func fn) #[] #[]] 62)))
      have X2 := Aside0.mk (Blk.new w1 62 #[.func (.func fn) #[] #[]])
      clear hz HBX HBL
      generalize hbF : w1.heap.size = bF at HS1 X2 ⊢
      refine HCH.out.mono ?_
      clear HCH
      rintro e w2 ⟨rfl, b2⟩
      rw [if_pos hsb]
      have B3 := Aside0.mk (B2.out.trans (b2.mono B2.out.size))
      replace X0 := Aside0.mk (X0.out.below b2)
      replace X1 := Aside0.mk (X1.out.below b2)
      replace X2 := Aside0.mk (X2.out.below b2)
      have hx0 : w2.cell? ⟨w.heap.size, 0, none⟩ = some (.slice A2 ws.length c2) := X0.out.cell 0
      clear b2 B2 B1 B0 HOW hbw hbF w1
      go_wp2_with fail
      have HCN := Aside0.mk (counts_calls l HL.out HN.out A c w2 (Kd.C_below HC.out B3.out))
      refine HCN.out.mono ?_
      clear HCN
      rintro e w3 ⟨bc, rfl, hbc, hoc, b3⟩
      have HS2 : Aside0 (bF < w2.heap.size ∧ w.heap.size ≤ w2.heap.size) := ⟨X2.out.lt, B3.out.size⟩
      have HOC := Aside0.mk hoc
      have HBC := Aside0.mk hbc
      have HBC2 := Aside0.mk hoc.lt
      have B4 := Aside0.mk (B3.out.trans (b3.mono B3.out.size))
      replace X0 := Aside0.mk (X0.out.below b3)
      replace X1 := Aside0.mk (X1.out.below b3)
      replace X2 := Aside0.mk (X2.out.below b3)
      clear hoc b3 hbc hx0 B3
      go_wp2_with fail
      go_step3
      go_wp2_with fail
      refine (scores_calls _ _ _ _).mono ?_
      rintro e w4 ⟨rfl, rfl⟩
      go_wp2_with fail
      have hfn : fn = 51 ∨ fn = 52 ∨ fn = 53 := by
        subst hn
        unfold wayN at hwn
        split at hwn
        · cases hwn; exact .inl rfl
        · split at hwn
          · cases hwn; exact .inr (.inl rfl)
          · split at hwn
            · cases hwn; exact .inr (.inr rfl)
            · cases hwn
      have hen : ∀ (args : Array Value) (u : World), (callFunc fn args).run Tryd.prog u = .ok (.enter fn args) u := by
        rcases hfn with rfl | rfl | rfl
        · exact enters_of Tryd.func51 (by kernel_rfl) rfl
        · exact enters_of Tryd.func52 (by kernel_rfl) rfl
        · exact enters_of Tryd.func53 (by kernel_rfl) rfl
      have HWAY : Aside0 (∀ (a b : Int) (u : World), Calls Tryd.prog fn #[.int .i64 a, .int .i64 b] u fun e w' => e = .returned (.tuple #[.int .i64 (wayG agg a b).1, .int .i64 (wayG agg a b).2]) ∧ Drawn0 u w') := ⟨by
        intro a b u
        subst hn
        unfold wayN at hwn
        unfold wayG
        split at hwn
        · rename_i h1
          cases hwn
          rw [if_pos h1]
          exact ints_Add.calls a b (addG a b).1 (addG a b).2 u (addG_some a b)
        · rename_i h1
          rw [if_neg h1]
          split at hwn
          · rename_i h2
            cases hwn
            rw [if_pos h2]
            exact (min_calls a b u).mono (fun _ _ hh => ⟨hh.1, by rw [hh.2]; exact Drawn0.refl u⟩)
          · rename_i h2
            rw [if_neg h2]
            split at hwn
            · cases hwn
              exact (max_calls a b u).mono (fun _ _ hh => ⟨hh.1, by rw [hh.2]; exact Drawn0.refl u⟩)
            · cases hwn⟩
      clear hfn
      have hpos : 0 < l.length := by unfold setsB at hsb; simp at hsb; exact hsb.1
      have o1 : OwnsT Tryd.prog 9 2 (((((w3.alloc (.cells #[.map (some bc)] 66)).alloc (.map #[] 0)).alloc (.cells #[.map (some (w3.heap.size + 1))] 49)).alloc (.cells #[.nilIface] 42)).alloc (.cells #[.slice A l.length c] 22)) (w3.heap.size + 1) [] := by
        have := (((OwnsT.made (w3.alloc (.cells #[.map (some bc)] 66)) Tryd.prog 9 2).kept (World.grownBy_alloc _ (.cells #[.map (some (w3.heap.size + 1))] 49) none) (by simp)).kept (World.grownBy_alloc _ (.cells #[.nilIface] 42) none) (by simp)).kept (World.grownBy_alloc _ (.cells #[.slice A l.length c] 22) none) (by simp)
        rwa [World.size_alloc] at this
      have hg5 : w3.grownBy (((((w3.alloc (.cells #[.map (some bc)] 66)).alloc (.map #[] 0)).alloc (.cells #[.map (some (w3.heap.size + 1))] 49)).alloc (.cells #[.nilIface] 42)).alloc (.cells #[.slice A l.length c] 22)) none :=
        ((((World.grownBy_alloc w3 _ none).trans (World.grownBy_alloc _ _ none)).trans (World.grownBy_alloc _ _ none)).trans (World.grownBy_alloc _ _ none)).trans (World.grownBy_alloc _ _ none)
      have p0 : Blk (((((w3.alloc (.cells #[.map (some bc)] 66)).alloc (.map #[] 0)).alloc (.cells #[.map (some (w3.heap.size + 1))] 49)).alloc (.cells #[.nilIface] 42)).alloc (.cells #[.slice A l.length c] 22)) w3.heap.size 66 #[.map (some bc)] := ((((Blk.new w3 66 _).alloc _).alloc _).alloc _).alloc _
      have p1 : Blk (((((w3.alloc (.cells #[.map (some bc)] 66)).alloc (.map #[] 0)).alloc (.cells #[.map (some (w3.heap.size + 1))] 49)).alloc (.cells #[.nilIface] 42)).alloc (.cells #[.slice A l.length c] 22)) (w3.heap.size + 1 + 1) 49 #[.map (some (w3.heap.size + 1))] := by
        have := ((Blk.new ((w3.alloc (.cells #[.map (some bc)] 66)).alloc (.map #[] 0)) 49 #[.map (some (w3.heap.size + 1))]).alloc (.cells #[.nilIface] 42)).alloc (.cells #[.slice A l.length c] 22)
        rwa [World.size_alloc, World.size_alloc] at this
      have p2 : Blk (((((w3.alloc (.cells #[.map (some bc)] 66)).alloc (.map #[] 0)).alloc (.cells #[.map (some (w3.heap.size + 1))] 49)).alloc (.cells #[.nilIface] 42)).alloc (.cells #[.slice A l.length c] 22)) (w3.heap.size + 1 + 1 + 1) 42 #[.nilIface] := by
        have := (Blk.new (((w3.alloc (.cells #[.map (some bc)] 66)).alloc (.map #[] 0)).alloc (.cells #[.map (some (w3.heap.size + 1))] 49)) 42 #[.nilIface]).alloc (.cells #[.slice A l.length c] 22)
        rwa [World.size_alloc, World.size_alloc, World.size_alloc] at this
      have p3 : Blk (((((w3.alloc (.cells #[.map (some bc)] 66)).alloc (.map #[] 0)).alloc (.cells #[.map (some (w3.heap.size + 1))] 49)).alloc (.cells #[.nilIface] 42)).alloc (.cells #[.slice A l.length c] 22)) (w3.heap.size + 1 + 1 + 1 + 1) 22 #[.slice A l.length c] := by
        have := Blk.new ((((w3.alloc (.cells #[.map (some bc)] 66)).alloc (.map #[] 0)).alloc (.cells #[.map (some (w3.heap.size + 1))] 49)).alloc (.cells #[.nilIface] 42)) 22 #[.slice A l.length c]
        rwa [World.size_alloc, World.size_alloc, World.size_alloc, World.size_alloc] at this
      have hz : (((((w3.alloc (.cells #[.map (some bc)] 66)).alloc (.map #[] 0)).alloc (.cells #[.map (some (w3.heap.size + 1))] 49)).alloc (.cells #[.nilIface] 42)).alloc (.cells #[.slice A l.length c] 22)).heap.size = w3.heap.size + 5 := by simp
      have hB5 : Below w.heap.size w (((((w3.alloc (.cells #[.map (some bc)] 66)).alloc (.map #[] 0)).alloc (.cells #[.map (some (w3.heap.size + 1))] 49)).alloc (.cells #[.nilIface] 42)).alloc (.cells #[.slice A l.length c] 22)) := below_alloc (below_alloc (below_alloc (below_alloc (below_alloc B4.out _) _) _) _) _
      have o2 := HOC.out.kept hg5 (by simp)
      have q0 := X0.out.grown hg5 (by simp)
      have q1 := X1.out.grown hg5 (by simp)
      have q2 := X2.out.grown hg5 (by simp)
      have hlt1 : bF < w3.heap.size := X2.out.lt
      have hlt2 := HBC2.out
      have hlt3 := HS1.out
      have HS4 : Aside0 (w.heap.size ≤ bc) := ⟨by have := HBC.out; have := HS2.out; omega⟩
      clear hg5 X0 X1 X2 HOC HBC HBC2 B4 HS1 HS2 hsb
      generalize hW0 : World.alloc _ (.cells #[.slice A l.length c] 22) = W0 at o1 o2 p0 p1 p2 p3 q0 q1 q2 hz hB5 ⊢
      clear hW0
      generalize w3.heap.size = h at o1 o2 p0 p1 p2 p3 q0 q1 q2 hz hB5 hlt1 hlt2 hlt3 ⊢
      have m0 : MI w.heap.size h bF bc (.slice A l.length c) (.slice A2 ws.length c2) least fn (cntT (pairs l)) .nilIface (tabM l ws agg least []) W0 := ⟨o1, o2, q0, q1, q2, p0, p1, p2, p3⟩
      clear o1 o2 q0 q1 q2 p0 p1 p2 w3 w2
      refine (wpIn_wide (n := 7)).1 ?_
      refine wpIn_rangeFunc_ownH rfl (by omega) (gf := 46) (lb := #[.pointer (some ⟨h + 1 + 1 + 1 + 1, 0, none⟩)]) rfl trivial (enters_of Tryd.func46 (by kernel_rfl) rfl)
        (scores_stops l HL.out A c w HC.out (h + 1 + 1 + 1 + 1) W0 hB5 (by omega) (p3.cell 0)) belowK_t (belowK_b (by omega)) (Below.refl _ _) (fun _ => rfl)
        (fun pre W => ((foldM (cntT (pairs l)) least ws agg [] (pre.map (pairAt l))).isSome = true ∧ WfT (tabM l ws agg least pre) ∧ (tabM l ws agg least pre).length ≤ pre.length) ∧ MI w.heap.size h bF bc (.slice A l.length c) (.slice A2 ws.length c2) least fn (cntT (pairs l)) .nilIface (tabM l ws agg least pre) W ∧ Below w.heap.size w W)
        (fun cc pre W => (cc = .exit 0 ∧ foldM (cntT (pairs l)) least ws agg [] (pre.map (pairAt l)) = none) ∧ Blk W (h + 1 + 1 + 1) 42 #[erV q] ∧ Below w.heap.size w W)
        (OwnFrom.and (ownFrom_pure _ _) (OwnFrom.and (fun s X Y row hs hg hr => hs.keep hg (fun r e => by have := (hr r e).1; omega) hlt1 hlt2 hlt3) (ownFrom_below (Nat.le_refl _) (by omega))))
        (fun cc => OwnFrom.and (ownFrom_pure _ _) (OwnFrom.and (Own.from (fun s X Y row hs hg hr => Blk.own _ _ (fun _ : Unit => _) () X Y row hs hg hr) _) (ownFrom_below (Nat.le_refl _) (by omega))))
        ⟨⟨rfl, (fun _ hp => by cases hp), Nat.le_refl _⟩, m0, hB5⟩
        (fun x a' W => ∃ Bx, h + 4 < Bx ∧ Blk W Bx 36 #[.string (pairAt l x).2.f0, .int .i64 (pairAt l x).2.f1] ∧ a' = { tmps := #[.slice A l.length c, .slice A2 ws.length c2, .int .i64 agg, .int .i64 least,
          undef, .pointer (some ⟨w.heap.size, 0, none⟩), undef, .pointer (some ⟨w.heap.size + 1, 0, none⟩), .slice none 0 0, .nilIface, .pointer (some ⟨bF, 0, none⟩), .bool true, .nilIface, .pointer (some ⟨h, 0, none⟩), .pointer (some ⟨h + 1 + 1, 0, none⟩), .pointer (some ⟨h + 1 + 1 + 1, 0, none⟩), .int .i64 (pairAt l x).1, .pointer (some ⟨Bx, 0, none⟩), undef, undef, undef,
          undef, .tuple #[.func (.func fn) #[] #[], .bool true], .map (some bw), .int .i64 agg, .tuple #[.func (.func fn) #[] #[], .bool true], .func (.func fn) #[] #[], .bool true, .slice A l.length c, .nilIface, .nilIface,
          .bool false, .bool false, .bool true, .bool false, .bool false, .bool false, .slice A2 ws.length c2, .int .i64 l.length, .slice A l.length c, .int .i64 l.length, .bool false, .bool false, undef, .slice A l.length c,
          .map (some bc), .map (some (h + 1)), .slice A l.length c, .func (.func 46) #[] #[.pointer (some ⟨h + 1 + 1 + 1 + 1, 0, none⟩)], .int .i64 (pairAt l x).1, .agg #[.string (pairAt l x).2.f0, .int .i64 (pairAt l x).2.f1],
          undef, undef, undef, undef, undef, undef, undef, undef, undef, undef, undef, undef, undef, undef, undef, undef, undef, undef, undef, undef, undef, undef, undef, undef, undef, undef, undef, undef, undef, undef, undef, undef, undef, undef, undef, undef, undef, undef, undef, undef, undef, undef, undef, undef, undef, undef, undef], defers := [] })
        (fun x a' => Own.from (fun s X Y row hs hg hr => by
          obtain ⟨Bx, h1, h2, h3⟩ := hs
          exact ⟨Bx, h1, Blk.own _ _ (fun _ : Unit => _) () X Y row h2 hg hr, h3⟩) _)
        ?assign ?body ?done ?stop
      case assign =>
        rintro lp pre x W K ⟨hpure, hm, hB⟩ hK
        simp only [encN, encP] at hK ⊢
        gi_wp2
        exact hK _ _ ((KeepsOthers.alloc _ _).from _) ((Below.refl _ W).alloc hB.size _) ⟨hpure, hm.keep (World.grownBy_alloc _ _ none) (fun r e => by cases e) hlt1 hlt2 hlt3, below_alloc hB _⟩ ⟨W.heap.size, by have := hm.y3.lt; omega, Blk.new W 36 _, rfl⟩
      case body =>
        rintro lp pre x a' W hlp hrec ⟨⟨hs, hwf, htl⟩, hm, hB⟩ ⟨Bx, hBx, bX, rfl⟩ hlt
        have HST : Aside0 (foldM (cntT (pairs l)) least ws agg [] ((pre ++ [x]).map (pairAt l)) = stepM (cntT (pairs l)) least ws agg (tabM l ws agg least pre) (pairAt l x)) := ⟨by
          rw [List.map_append, List.map_singleton, foldM_snoc]
          obtain ⟨T, hT⟩ := Option.isSome_iff_exists.1 hs
          unfold tabM
          rw [hT]
          rfl⟩
        have HTA : Aside0 (∀ T', stepM (cntT (pairs l)) least ws agg (tabM l ws agg least pre) (pairAt l x) = some T' → (foldM (cntT (pairs l)) least ws agg [] ((pre ++ [x]).map (pairAt l))).isSome = true ∧ tabM l ws agg least (pre ++ [x]) = T' ∧ WfT T' ∧ T'.length ≤ (pre ++ [x]).length) := ⟨by
          intro T' hT'
          have h1 := HST.out
          rw [hT'] at h1
          obtain ⟨h2, h3⟩ := stepM_wf hwf hT'
          refine ⟨by rw [h1]; rfl, by show (foldM (cntT (pairs l)) least ws agg [] ((pre ++ [x]).map (pairAt l))).getD [] = T'; rw [h1]; rfl, h2, ?_⟩
          rw [List.length_append, List.length_singleton]
          omega⟩
        have hGE := pairAt_good HL.out x
        have hidx := pairAt_lt l hpos x
        generalize tabM l ws agg least pre = T at hm hwf htl HST HTA
        generalize pairAt l x = y at bX HST HTA hGE hidx ⊢
        obtain ⟨ad, e, hw0⟩ := Kd.at_int (Kd.C_below HC2.out hB) (y.1 : Int) (by omega) (by have := HWL.out; omega)
        subst e
        rw [Int.toNat_natCast] at hw0
        have hidx2 : (y.1 : Int) < (ws.length : Int) := by have := HWL.out; omega
        have HM2 := Aside0.mk hm
        have HB := Aside0.mk hB
        have HWF := Aside0.mk hwf
        have HG1 := Aside0.mk hGE.1
        have hX0 : W.cell? ⟨Bx, 0, none⟩ = some (.string y.2.f0) := bX.cell 0
        have hX1 : W.cell? ⟨Bx, 1, none⟩ = some (.int .i64 y.2.f1) := bX.cell 1
        have hc1 : W.cell? ⟨h, 0, none⟩ = some (.map (some bc)) := hm.y0.cell 0
        have hc2 : W.cell? ⟨w.heap.size + 1, 0, none⟩ = some (.int .i64 least) := hm.x1.cell 0
        have hc3 : W.cell? ⟨w.heap.size, 0, none⟩ = some (.slice (some ad) ws.length c2) := hm.x0.cell 0
        have hTL : Aside0 (T.length < maxLen) := ⟨by have := HN.out; unfold maxLen; omega⟩
        have HZ := Aside0.mk hz
        clear hm hB hwf htl hGE hs bX hlt HC HC2 HWS HN hz
        by_cases hcl : (getT (cntT (pairs l)) y.2.f0).getD 0 < least
        · have hst := HTA.out T (by unfold stepM; rw [if_pos hcl])
          have HH := Aside0.mk hst
          clear hst HTA HST
          gi_wp2_with (first
            | (gi_at_lookup; refine wpListIn_get_own _ rfl _ _ 66 rfl 9 3 Tryd.underlying9 Tryd.underlying3 Tryd.underlying66 (zero3 _) bc _ rfl HM2.out.cnt _ rfl HG1.out ?_))
          refine ⟨KeepsFrom.refl _ _, Below.refl _ _, ⟨HH.out.1, ?_, ?_⟩, ?_, HB.out⟩
          · rw [HH.out.2.1]; exact HH.out.2.2.1
          · rw [HH.out.2.1]; exact HH.out.2.2.2
          · rw [HH.out.2.1]; exact HM2.out
        · have HST2 : Aside0 (stepM (cntT (pairs l)) least ws agg T y = (if (mulG y.2.f1 (rd ws y.1)).2 = 0 then
              (match getT T y.2.f0 with
                | some old => if (wayG agg old (mulG y.2.f1 (rd ws y.1)).1).2 = 0 then some (putT T y.2.f0 (wayG agg old (mulG y.2.f1 (rd ws y.1)).1).1) else none
                | none => some (putT T y.2.f0 (mulG y.2.f1 (rd ws y.1)).1))
              else none)) := ⟨by unfold stepM; rw [if_neg hcl]; rfl⟩
          have HMC := Aside0.mk (fun u => ints_Mul.calls y.2.f1 (rd ws y.1) (mulG y.2.f1 (rd ws y.1)).1 (mulG y.2.f1 (rd ws y.1)).2 u (mulG_some y.2.f1 (rd ws y.1)))
          have HMW := Aside0.mk (mulG_wf y.2.f1 (rd ws y.1))
          generalize mulG y.2.f1 (rd ws y.1) = mu at HST2 HMC HMW
          obtain ⟨n, why⟩ := mu
          simp only at HMC HST2 HMW
          gi_upto_region 12 with (first
            | (gi_at_lookup; refine wpListIn_get_own _ rfl _ _ 66 rfl 9 3 Tryd.underlying9 Tryd.underlying3 Tryd.underlying66 (zero3 _) bc _ rfl HM2.out.cnt _ rfl HG1.out ?_))
          refine region_quiet_round (F := Fence.wide) (l := lp) rfl (by kernel_rfl) (by kernel_rfl) (by kernel_rfl) ?_
          repeat (gi_big_quiet_step ((gi_at_call 41; exact CallsIn.quiet_of ((callsIn_wide.2 (HMC.out _)).mono (fun _ _ hh => ⟨hh.1, hh.2.out⟩)))))
          refine wpQuietIn_nil ?_
          intro _ hw'
          obtain ⟨nq, hw''⟩ := hw'
          subst hw''
          have HMD := Aside0.mk (HM2.out.drewN nq hlt1 hlt2 hlt3)
          have HBD : Aside0 (Below w.heap.size w (W.drewN nq)) := ⟨HB.out.trans (show Below w.heap.size W (W.drewN nq) from ⟨rfl, rfl, rfl, Nat.le_refl _, fun _ _ => rfl⟩)⟩
          have hK0 : KeepsFrom W0.heap.size W (W.drewN nq) := ⟨Nat.le_refl _, fun _ _ _ hk _ => hk⟩
          have HKK := Aside0.mk hK0
          have HBK : Aside0 (Below w.heap.size W (W.drewN nq)) := ⟨⟨rfl, rfl, rfl, Nat.le_refl _, fun _ _ => rfl⟩⟩
          have hc4 : W.cell? ⟨h + 1 + 1, 0, none⟩ = some (.map (some (h + 1))) := HM2.out.y1.cell 0
          have hc5 : W.cell? ⟨bF, 0, none⟩ = some (.func (.func fn) #[] #[]) := HM2.out.x2.cell 0
          have hc6 : W.cell? ⟨h + 1 + 1 + 1, 0, none⟩ = some .nilIface := HM2.out.y2.cell 0
          have hc7 : W.frozen? ⟨h + 1 + 1 + 1, 0, none⟩ = false := HM2.out.y2.frozen 0
          have hge : W.cell? ⟨1, 0, none⟩ = some (erV q) := (HG.out.on HB.out).eo
          clear hK0
          have hWs : w.heap.size ≤ h := by omega
          have hsr : (store ⟨h + 1 + 1 + 1, 0, none⟩ (erV q)).run Tryd.prog (W.drewN nq) = .ok () ((W.drewN nq).setCell ⟨h + 1 + 1 + 1, 0, none⟩ (erV q)) := by
            rw [run_store Tryd.prog (W.drewN nq) _ _ _ (by rfl)]
            simp [hc6, hc7]
          by_cases hwhy : why = 0
          · subst hwhy
            cases hget : getT T y.2.f0 with
            | none =>
              rw [hget] at HST2
              have hst := HTA.out (putT T y.2.f0 n) (by rw [HST2.out, if_pos rfl])
              have HH := Aside0.mk hst
              clear hst HTA HST HST2
              gi_wp2_with (first
                | (gi_at_lookup; refine wpListIn_get_own_ok _ rfl _ _ 49 rfl 9 2 Tryd.underlying9 Tryd.underlying2 Tryd.underlying49 (zero2 _) (h + 1) _ rfl HMD.out.out _ rfl HG1.out ?_; rw [hget])
                | (gi_at_mapUpdate; refine wpListIn_put_own _ rfl _ _ _ 49 rfl 9 2 Tryd.underlying9 Tryd.underlying2 Tryd.underlying49 (h + 1) _ rfl HMD.out.out hTL.out _ _ rfl rfl HG1.out HMW.out ?_; intro W2 hown2 hg2))
              have g1 := KeepsFrom.of_grownBy (B := W0.heap.size) hg2 (fun j e => by cases e; have := HZ.out; omega)
              refine ⟨HKK.out.trans g1, HBK.out.trans ((Below.refl w.heap.size _).grown hg2 HBD.out.size (fun k e => by cases e; omega)), ⟨HH.out.1, ?_, ?_⟩, ?_, HBD.out.grown hg2 HBD.out.size (fun k e => by cases e; omega)⟩
              · rw [HH.out.2.1]; exact HH.out.2.2.1
              · rw [HH.out.2.1]; exact HH.out.2.2.2
              · rw [HH.out.2.1]; exact HMD.out.put hg2 hown2 hlt1 hlt2 hlt3
            | some old =>
              rw [hget] at HST2
              have HWO := Aside0.mk (wayG_wf agg old n (HWF.out.get hget) HMW.out)
              have HCW := Aside0.mk (fun u => HWAY.out old n u)
              have HST3 : Aside0 (stepM (cntT (pairs l)) least ws agg T y = if (wayG agg old n).2 = 0 then some (putT T y.2.f0 (wayG agg old n).1) else none) := ⟨by rw [HST2.out, if_pos rfl]⟩
              clear HST2
              generalize wayG agg old n = wn at HST3 HWO HCW
              obtain ⟨n2, why2⟩ := wn
              simp only at HST3 HWO HCW
              gi_wp2_with (first
                | (gi_at_lookup; refine wpListIn_get_own_ok _ rfl _ _ 49 rfl 9 2 Tryd.underlying9 Tryd.underlying2 Tryd.underlying49 (zero2 _) (h + 1) _ rfl HMD.out.out _ rfl HG1.out ?_; rw [hget]))
              refine (CallsIn.inRound lp (callsIn_wide.2 (HCW.out _))).mono ?_
              rintro e w5 ⟨rfl, ⟨⟨n3, rfl⟩⟩⟩
              clear hsr
              have HME := Aside0.mk (HMD.out.drewN n3 hlt1 hlt2 hlt3)
              have HBE : Aside0 (Below w.heap.size w ((W.drewN nq).drewN n3)) := ⟨HBD.out.trans (show Below w.heap.size (W.drewN nq) ((W.drewN nq).drewN n3) from ⟨rfl, rfl, rfl, Nat.le_refl _, fun _ _ => rfl⟩)⟩
              have HKE : Aside0 (KeepsFrom W0.heap.size W ((W.drewN nq).drewN n3)) := ⟨HKK.out.trans (show KeepsFrom W0.heap.size (W.drewN nq) ((W.drewN nq).drewN n3) from ⟨Nat.le_refl _, fun _ _ _ hk _ => hk⟩)⟩
              have HBL : Aside0 (Below w.heap.size W ((W.drewN nq).drewN n3)) := ⟨HBK.out.trans (show Below w.heap.size (W.drewN nq) ((W.drewN nq).drewN n3) from ⟨rfl, rfl, rfl, Nat.le_refl _, fun _ _ => rfl⟩)⟩
              generalize hWE : (W.drewN nq).drewN n3 = WE at HME HBE HKE HBL ⊢
              have hX0' : WE.cell? ⟨Bx, 0, none⟩ = some (.string y.2.f0) := by rw [← hWE]; exact hX0
              have hc4' : WE.cell? ⟨h + 1 + 1, 0, none⟩ = some (.map (some (h + 1))) := HME.out.y1.cell 0
              have hge' : WE.cell? ⟨1, 0, none⟩ = some (erV q) := (HG.out.on HBE.out).eo
              have hsr : (store ⟨h + 1 + 1 + 1, 0, none⟩ (erV q)).run Tryd.prog WE = .ok () (WE.setCell ⟨h + 1 + 1 + 1, 0, none⟩ (erV q)) := by
                rw [run_store Tryd.prog WE _ _ _ (by rfl)]
                have h1 : WE.cell? ⟨h + 1 + 1 + 1, 0, none⟩ = some .nilIface := HME.out.y2.cell 0
                have h2 : WE.frozen? ⟨h + 1 + 1 + 1, 0, none⟩ = false := HME.out.y2.frozen 0
                simp [h1, h2]
              have hc6' : WE.cell? ⟨h + 1 + 1 + 1, 0, none⟩ = some .nilIface := HME.out.y2.cell 0
              have hc7' : WE.frozen? ⟨h + 1 + 1 + 1, 0, none⟩ = false := HME.out.y2.frozen 0
              clear hWE hX0 hc4 hge hc5 hc6 hc7 hc1 hc2 hc3 hX1 hw0
              by_cases hwhy2 : why2 = 0
              · subst hwhy2
                have hst := HTA.out (putT T y.2.f0 n2) (by rw [HST3.out, if_pos rfl])
                have HH := Aside0.mk hst
                clear hst HTA HST HST3
                gi_wp2_with (first
                  | (gi_at_mapUpdate; refine wpListIn_put_own _ rfl _ _ _ 49 rfl 9 2 Tryd.underlying9 Tryd.underlying2 Tryd.underlying49 (h + 1) _ rfl HME.out.out hTL.out _ _ rfl rfl HG1.out HWO.out ?_; intro W2 hown2 hg2))
                have g1 := KeepsFrom.of_grownBy (B := W0.heap.size) hg2 (fun j e => by cases e; have := HZ.out; omega)
                refine ⟨HKE.out.trans g1, HBL.out.trans ((Below.refl w.heap.size _).grown hg2 HBE.out.size (fun k e => by cases e; omega)), ⟨HH.out.1, ?_, ?_⟩, ?_, HBE.out.grown hg2 HBE.out.size (fun k e => by cases e; omega)⟩
                · rw [HH.out.2.1]; exact HH.out.2.2.1
                · rw [HH.out.2.1]; exact HH.out.2.2.2
                · rw [HH.out.2.1]; exact HME.out.put hg2 hown2 hlt1 hlt2 hlt3
              · have hn0 : Aside0 (foldM (cntT (pairs l)) least ws agg [] ((pre ++ [x]).map (pairAt l)) = none) := ⟨by rw [HST.out, HST3.out, if_neg hwhy2]⟩
                clear HTA HST HST3
                gi_wp2_with fail
                rw [show (storeCells ⟨h + 1 + 1 + 1, 0, none⟩ [erV q]).run Tryd.prog WE = .ok () (WE.setCell ⟨h + 1 + 1 + 1, 0, none⟩ (erV q)) from hsr]
                simp only [Result.andThen]
                gi_wp2_with fail
                refine ⟨HKE.out.trans ((KeepsOthers.setCell _ _ _).from _), ⟨rfl, hn0.out⟩, HME.out.y2.set 0 (erV q), HBE.out.setCell (p := ⟨h + 1 + 1 + 1, 0, none⟩) (by show w.heap.size ≤ h + 1 + 1 + 1; omega) _⟩
          · have hn0 : Aside0 (foldM (cntT (pairs l)) least ws agg [] ((pre ++ [x]).map (pairAt l)) = none) := ⟨by rw [HST.out, HST2.out, if_neg hwhy]⟩
            clear HTA HST HST2
            cases hget : getT T y.2.f0 with
            | none =>
              gi_wp2_with (first
                | (gi_at_lookup; refine wpListIn_get_own_ok _ rfl _ _ 49 rfl 9 2 Tryd.underlying9 Tryd.underlying2 Tryd.underlying49 (zero2 _) (h + 1) _ rfl HMD.out.out _ rfl HG1.out ?_; rw [hget]))
              refine ⟨HKK.out.trans ((KeepsOthers.setCell _ _ _).from _), ⟨rfl, hn0.out⟩, HMD.out.y2.set 0 (erV q), HBD.out.setCell (p := ⟨h + 1 + 1 + 1, 0, none⟩) (by show w.heap.size ≤ h + 1 + 1 + 1; omega) _⟩
            | some old =>
              gi_wp2_with (first
                | (gi_at_lookup; refine wpListIn_get_own_ok _ rfl _ _ 49 rfl 9 2 Tryd.underlying9 Tryd.underlying2 Tryd.underlying49 (zero2 _) (h + 1) _ rfl HMD.out.out _ rfl HG1.out ?_; rw [hget]))
              refine ⟨HKK.out.trans ((KeepsOthers.setCell _ _ _).from _), ⟨rfl, hn0.out⟩, HMD.out.y2.set 0 (erV q), HBD.out.setCell (p := ⟨h + 1 + 1 + 1, 0, none⟩) (by show w.heap.size ≤ h + 1 + 1 + 1; omega) _⟩
      case done =>
        rintro D ys W hD rfl ⟨⟨hs, _, _⟩, hm, hB⟩ hK
        have hrng := map_range l
        unfold tabM at hm
        rw [hrng] at hs hm
        obtain ⟨T, hT⟩ := Option.isSome_iff_exists.1 hs
        rw [hT] at hm
        have HMT : Aside0 (madeF l ws agg least = (sortT T, 0)) := ⟨by rw [HM.out, hT]⟩
        have hmT : (T.length ≤ 1000000) := by
          have := foldM_len (cntT (pairs l)) least ws agg (pairs l) [] T hT
          have := HN.out
          rw [List.length_nil] at *
          omega
        have HK := Aside0.mk hK
        have hD2 : h + 5 ≤ D := by omega
        have hc1 : W.cell? ⟨h + 1 + 1 + 1, 0, none⟩ = some .nilIface := hm.y2.cell 0
        have hc2 : W.cell? ⟨h + 1 + 1, 0, none⟩ = some (.map (some (h + 1))) := hm.y1.cell 0
        have HLI := Aside0.mk (list_calls T (h + 1) W hm.out (by omega))
        have HB := Aside0.mk hB
        clear hK hm hB hT hs hrng HM
        go_wp2_with fail
        refine HLI.out.mono ?_
        rintro e w5 ⟨v, S, rfl, hS, hR, b5⟩
        have hK5 := (b5.block D (Array.getElem?_eq_some_iff.1 HK.out).1).trans HK.out
        have HDL := (Array.getElem?_eq_some_iff.1 HK.out).1
        go_wp2_with fail
        rw [Exit.noGoto_ret]
        refine ⟨by simp, .inl ⟨_, _, rfl, run_takeDeferred hK5, ?_⟩⟩
        refine ⟨.tuple #[v, .nilIface], by simp [results, Tryd.f24, go_sem], ⟨v, ?_, ?_, ?_⟩⟩
        · rw [HMT.out]; rfl
        · rw [HMT.out, ← sortT_of hS]
          have hR2 := Kd.R_grown hR (grownBy_putObj' w5 D (.deferred none)) (fun k hk e => by injection e with e; omega)
          exact Kd.R_mono (Kd.R_lower hR2 (show w.heap.size ≤ W.heap.size + 1 by have := HB.out.size; omega)) (ok' := fun k => w.heap.size ≤ k) (fun k hk => by have := HB.out.size; omega)
        · exact (HB.out.trans (b5.mono HB.out.size)).trans (belowK_b (w := w) (Nat.le_refl _) w5 D _ _ (by omega) hK5 rfl rfl)
      case stop =>
        rintro D cc pre W hD hpre ⟨⟨rfl, hno⟩, hb, hB⟩ hK
        have HMT : Aside0 (madeF l ws agg least = ([], 11)) := ⟨by
          obtain ⟨rest, hr⟩ := hpre
          have e : pairs l = pre.map (pairAt l) ++ rest.map (pairAt l) := by rw [← List.map_append, hr, map_range]
          have h0 : foldM (cntT (pairs l)) least ws agg [] (pairs l) = none := by
            have := foldM_append (cntT (pairs l)) least ws agg (pre.map (pairAt l)) (rest.map (pairAt l)) []
            rw [← e, hno] at this
            exact this
          rw [HM.out, h0]⟩
        have hc1 : W.cell? ⟨h + 1 + 1 + 1, 0, none⟩ = some (erV q) := hb.cell 0
        have HK := Aside0.mk hK
        have HB := Aside0.mk hB
        have hq1 := eq1' q
        have hq2 := eq2 q
        have hD2 : h + 5 ≤ D := by omega
        clear hK hB hno hpre HM hb
        refine wpIn_wide.2 ?_
        go_wp2_with fail
        go_upto_region 20 with fail
        go_quiet (fail)
        go_wp2
        rw [Exit.noGoto_ret]
        refine ⟨by simp, .inl ⟨_, _, rfl, run_takeDeferred (w := W.drewN nq) HK.out, ?_⟩⟩
        refine ⟨.tuple #[.slice none 0 0, erV q], by simp [results, Tryd.f24, go_sem], ⟨.slice none 0 0, ?_, ?_, ?_⟩⟩
        · rw [HMT.out]; rfl
        · rw [HMT.out]; exact Kd.R_nil _ _ _ _ _
        · exact (HB.out.trans (show Below w.heap.size W (W.drewN nq) from ⟨rfl, rfl, rfl, Nat.le_refl _, fun _ _ => rfl⟩)).trans (belowK_b (w := w) (Nat.le_refl _) (W.drewN nq) D _ _ (by omega) HK.out rfl rfl)
end Go.Proofs.YtidhbpfkiapcjaaDoor.P
