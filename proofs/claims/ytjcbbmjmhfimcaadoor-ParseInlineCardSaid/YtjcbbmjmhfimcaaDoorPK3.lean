/- A request of the first kind: so many arguments, or what is wrong. Conditions: that the text has at most a hundred thousand bytes. -/
import Derived.Test.YtjcbbmjmhfimcaaDoorPK2
import Derived.Deep.MidRow
import Derived.OwnWalkIn
namespace Go.Proofs.YtjcbbmjmhfimcaaDoor.P
open Go.RowKit Go.Lib Go.Proofs.YtjcbbmjmhfimcaaDoorW.PrintWords Go.Proofs.YtjcbbmjmhfimcaaDoorW.PrintLast Go.Proofs.YtjcbbmjmhfimcaaDoorW.PrintMore Go.Proofs.YtjcbbmjmhfimcaaDoor.RF
attribute [local go_sem] Oper.semAt_some

theorem headB_hi (s : ByteArray) (lo hi : Int) (h : (headB s lo hi).2.1 = 0) : (headB s lo hi).1 ≤ max hi (-1) := by
  unfold headB at h ⊢
  split at h
  · simp only at h; split at h <;> omega
  · rename_i h1
    rw [if_neg h1]
    split at h
    · simp only at h; omega
    · rename_i h2
      rw [if_neg h2]
      simp only
      simp only [not_or, Int.not_lt] at h2
      omega
/-- The arguments up to the first wrong one, and what is wrong. -/
def wrongAt : List (ByteArray × Int) → Int
  | [] => 0
  | x :: t => if x.2 ≠ 0 then x.2 else wrongAt t
/-- A request of the first kind: its arguments, what is wrong, what is left (where nothing is wrong). -/
def bulksB (s : ByteArray) : List ByteArray × Int × ByteArray :=
  if (headB s (-9223372036854775808) 64).2.1 ≠ 0 then ([], (headB s (-9223372036854775808) 64).2.1, (headB s (-9223372036854775808) 64).2.2)
  else if wrongAt (itemsB (headB s (-9223372036854775808) 64).2.2 (headB s (-9223372036854775808) 64).1.toNat) ≠ 0 then ([], wrongAt (itemsB (headB s (-9223372036854775808) 64).2.2 (headB s (-9223372036854775808) 64).1.toNat), s)
  else ((itemsB (headB s (-9223372036854775808) 64).2.2 (headB s (-9223372036854775808) 64).1.toNat).map (·.1), 0, restB (headB s (-9223372036854775808) 64).2.2 (headB s (-9223372036854775808) 64).1.toNat)
theorem calls_of_wp_marks {P : Program} {f : FuncId} {fn : Func} {c : Code} {args : Array Value} {w : World} {R : Ending → World → Prop} (n : Nat)
    (hf : P.funcs[f]? = some fn) (hb : fn.body = some c) (h : c.wp P (bodyPostM Fence.wide n P fn R) { tmps := args ++ Array.replicate (fn.ntmps - args.size) undef, defers := [] } w) : Calls P f args w R :=
  callsIn_wide.1 (callsIn_of_wp_marks hf hb trivial (wpIn_wide.2 h) rfl)
theorem postM_ret {F : Fence} {n : Nat} {P : Program} {fn : Func} {R : Ending → World → Prop} {a : Act} {w : World} {v : Value} (hd : a.defers = []) (hr : (results fn a.tmps).run P w = .ok v w) (h : R (.returned v) w) : bodyPostM F n P fn R .ret a w := by
  show LeavesInM F n P fn a.tmps R a.defers .returning w
  rw [hd]
  exact ⟨v, hr, h⟩
theorem info9s : (Tryd.prog.info? 9).map (fun i => (i.zero, i.size, i.bytes)) = some (some (.string ⟨#[]⟩), 1, 16) := by kernel_rfl
theorem R_own {e base : Nat} {ok : Nat → Prop} {X Y : World} {v : Value} {xs : List ByteArray} {row : Option Nat} (h : Kd.R Kd.string e X base ok v xs) (hg : X.grownBy Y row) (hr : ∀ r, row = some r → ∃ o : Obj, X.heap[r]? = some o ∧ o.isCells = false) : Kd.R Kd.string e Y base ok v xs :=
  Kd.R_mono (Kd.R_grown (Kd.R_bound h) hg (fun k hk e => by
    obtain ⟨_, _, _, q, _, cells, hc⟩ := hk
    obtain ⟨o, ho, hn⟩ := hr k e.symm
    rw [hc] at ho
    cases ho
    cases hn)) (fun k hk => hk.1)
theorem append_in {F : Fence} {n : Nat} {ops : Array Oper} {rest : List Oper} {o : Oper} {a : Act} {Q : Exit → Act → World → Prop} {W : World} (hg : o.guard = none) (x y : Operand) (ho : o.op = .call { callee := .builtin .append, args := #[x, y], argTypes := #[22, 22] })
    (base : Nat) (v : Value) (out : List ByteArray) (p : ByteArray) (hs : a.eval x = v) (hx : a.eval y = .slice (some ⟨W.heap.size, 0, none⟩) 1 1) (HO : Kd.R Kd.string 9 W base (fun k => base ≤ k) v out) (hbase : base ≤ W.heap.size) (hl : out.length ≤ 2000)
    (h : ∀ v1 w1, Kd.R Kd.string 9 w1 base (fun k => base ≤ k) v1 (out ++ [p]) → (W.alloc (.cells #[.string p] 9)).grownBy w1 v.ownBlock → wpListIn F n Tryd.prog ops Q rest (a.put o.dst v1) w1) :
    wpListIn F n Tryd.prog ops Q (o :: rest) a (W.alloc (.cells #[.string p] 9)) := by
  obtain ⟨i0, hi, hz0, hz1, hz2⟩ := info_parts info9s
  have hown := Kd.own_of_R HO
  have hown2 : (W.alloc (.cells #[.string p] 9)).ownsRow base 9 1 v out.length (encs Value.string out) := hown.alloc _
  refine wpListIn_append_own _ hg x y 22 ho base 9 i0 (.string ⟨#[]⟩) 1 16 Tryd.underlying22 hi hz0 hz1 hz2 rfl (by decide) v out.length (encs Value.string out) hs hown2 ⟨W.heap.size, 0, none⟩ 1 1 [.string p] hx rfl ?_ (by simp [Value.oneCell']) (by unfold maxLen; omega) (by omega) (by simp; omega) ?_
  · intro j u hj
    match j with
    | 0 =>
      simp at hj
      subst hj
      simp [Addr.add]
    | j + 1 => simp at hj
  · intro v' w' r1 r2 _
    refine h v' w' (Kd.R_of_own ?_ (fun k hk => own_base r1 k hk)) r2
    have : encs Value.string (out ++ [p]) = encs Value.string out ++ [.string p] := by simp [encs]
    rw [this, List.length_append]
    exact r1
theorem Kd.R_own_ge {W : World} {base : Nat} {ok : Nat → Prop} {v : Value} {xs : List ByteArray} (h : Kd.R Kd.string 9 W base ok v xs) (k : Nat) (hk : v.ownBlock = some k) : base ≤ k := own_base (Kd.own_of_R h) k hk
theorem R_own_cells {W : World} {base : Nat} {ok : Nat → Prop} {v : Value} {xs : List ByteArray} (h : Kd.R Kd.string 9 W base ok v xs) (j : Nat) (o : Obj) (hj : v.ownBlock = some j) (ho : W.heap[j]? = some o) : o.isCells = true := by
  obtain ⟨_, _, _, q, _, cells, hc⟩ := (Kd.R_bound h).1 j hj
  rw [ho] at hc
  cases hc
  rfl
theorem grown_far {w A B : World} {R : Nat} {row : Option Nat} (h : w.grownBy A (some R)) (hg : A.grownBy B row) (hk : ∀ k, row = some k → w.heap.size ≤ k) : w.grownBy B (some R) :=
  ⟨hg.os.trans h.os, hg.tape.trans h.tape, hg.output.trans h.output, Nat.le_trans h.size hg.size, fun k hlt hne => (hg.block k (Nat.lt_of_lt_of_le hlt h.size) (fun e => by have := hk k e.symm; omega)).trans (h.block k hlt hne)⟩
theorem round70 {w W w5 : World} {R be bo rb nb B : Nat} {v v1 : Value} {out : List ByteArray} {p : ByteArray} (hbe : w.heap.size ≤ be) (l1 : be < bo) (l2 : bo < rb) (l3 : rb < nb) (l4 : nb < B) (hB : B ≤ W.heap.size) (hRb : R < be) (h2R : 2 < R)
    (h3 : Blk W be 58 #[.nilIface]) (h4 : Blk W bo 22 #[v]) (h5 : Kd.R Kd.string 9 W B (fun k => B ≤ k) v out) (h6 : w.grownBy W (some R)) (hR5 : Kd.R Kd.string 9 w5 B (fun k => B ≤ k) v1 (out ++ [p])) (hg5 : ((W.setCell ⟨be, 0, none⟩ .nilIface).alloc (.cells #[.string p] 9)).grownBy w5 v.ownBlock) :
    KeepsFrom B W (w5.setCell ⟨bo, 0, none⟩ v1) ∧ Keep72 R rb nb W (w5.setCell ⟨bo, 0, none⟩ v1) ∧ Blk (w5.setCell ⟨bo, 0, none⟩ v1) be 58 #[.nilIface] ∧ Blk (w5.setCell ⟨bo, 0, none⟩ v1) bo 22 #[v1] ∧ Kd.R Kd.string 9 (w5.setCell ⟨bo, 0, none⟩ v1) B (fun k => B ≤ k) v1 (out ++ [p]) ∧ w.grownBy (w5.setCell ⟨bo, 0, none⟩ v1) (some R) ∧ B ≤ (w5.setCell ⟨bo, 0, none⟩ v1).heap.size := by
  have hown := fun k hk => Kd.R_own_ge h5 k hk
  have RG : Kd.R Kd.string 9 ((W.setCell ⟨be, 0, none⟩ .nilIface).alloc (.cells #[.string p] 9)) B (fun k => B ≤ k) v out := Kd.R_alloc (Kd.R_grown h5 (grownBy_setCell' W be .nilIface) (fun k hk e => by cases e; omega)) _
  have gA := grownBy_setCell' W be .nilIface
  have gB := grown_below (below_alloc (Below.refl _ (W.setCell ⟨be, 0, none⟩ .nilIface)) (.cells #[.string p] 9)) none
  have gC := grownBy_setCell' w5 bo v1
  have z1 := gA.size
  have z2 := gB.size
  have z3 := hg5.size
  have z4 := gC.size
  have b1 : Blk w5 be 58 #[.nilIface] := ((h3.set 0 .nilIface).alloc _).grown hg5 (fun e => by have := hown be e.symm; omega)
  have b2 : Blk w5 bo 22 #[v] := ((h4.other (by omega) 0 .nilIface).alloc _).grown hg5 (fun e => by have := hown bo e.symm; omega)
  refine ⟨(((KeepsOthers.setCell _ _ _).trans (KeepsOthers.alloc _ _)).trans ((KeepsOthers.of_grownBy hg5 (fun j o hj ho => R_own_cells RG j o hj ho)).trans (KeepsOthers.setCell _ _ _))).from _, ⟨by omega, fun k hk => ?_⟩, b1.other (by omega) _ _, b2.set 0 v1, Kd.R_grown hR5 gC (fun k hk e => by cases e; omega), ?_, by omega⟩
  · have hkB : k < B ∧ k ≠ be ∧ k ≠ bo := by omega
    exact (gC.block k (by omega) (fun e => by cases e; omega)).trans ((hg5.block k (by omega) (fun e => by have := hown k e.symm; omega)).trans ((gB.block k (by omega) (fun e => by cases e)).trans (gA.block k (by omega) (fun e => by cases e; omega))))
  · exact grown_far (grown_far (grown_far (grown_far h6 gA (fun k e => by cases e; omega)) gB (fun k e => by cases e)) hg5 (fun k e => by have := hown k e; have := h6.size; omega)) gC (fun k e => by cases e; omega)
theorem wrongAt_zero : ∀ (l : List (ByteArray × Int)), (∀ x ∈ l, x.2 = 0) → wrongAt l = 0
  | [], _ => rfl
  | x :: t, h => by
    unfold wrongAt
    rw [if_neg (by simp [h x List.mem_cons_self])]
    exact wrongAt_zero t (fun y hy => h y (List.mem_cons_of_mem _ hy))
theorem wrongAt_snoc : ∀ (l : List (ByteArray × Int)) (x : ByteArray × Int), (∀ x ∈ l, x.2 = 0) → wrongAt (l ++ [x]) = x.2
  | [], x, _ => by
    by_cases h : x.2 = 0
    · simp [wrongAt, h]
    · simp [wrongAt, h]
  | y :: t, x, h => by
    show (if y.2 ≠ 0 then y.2 else wrongAt (t ++ [x])) = x.2
    rw [if_neg (by simp [h y List.mem_cons_self])]
    exact wrongAt_snoc t x (fun y hy => h y (List.mem_cons_of_mem _ hy))
theorem wrongAt_prefix : ∀ {l m : List (ByteArray × Int)}, l <+: m → wrongAt l ≠ 0 → wrongAt m = wrongAt l
  | [], _, _, h => absurd rfl h
  | x :: t, m, hp, h => by
    obtain ⟨r, rfl⟩ := hp
    show (if x.2 ≠ 0 then x.2 else wrongAt (t ++ r)) = if x.2 ≠ 0 then x.2 else wrongAt t
    by_cases hx : x.2 = 0
    · rw [if_neg (by simp [hx]), if_neg (by simp [hx])]
      refine wrongAt_prefix ⟨r, rfl⟩ ?_
      simpa [wrongAt, hx] using h
    · rw [if_pos hx, if_pos hx]
theorem fr70_new (w1 : World) (x : Value) (n : Int) :
    Blk ((((w1.alloc (.cells #[.nilIface] 58)).alloc (.cells #[.slice none 0 0] 22)).alloc (.cells #[x] 48)).alloc (.cells #[.int .i64 n] 3)) w1.heap.size 58 #[.nilIface]
    ∧ (Blk ((((w1.alloc (.cells #[.nilIface] 58)).alloc (.cells #[.slice none 0 0] 22)).alloc (.cells #[x] 48)).alloc (.cells #[.int .i64 n] 3)) (w1.heap.size + 1) 22 #[.slice none 0 0] ∧ w1.heap.size < w1.heap.size + 1)
    ∧ (Blk ((((w1.alloc (.cells #[.nilIface] 58)).alloc (.cells #[.slice none 0 0] 22)).alloc (.cells #[x] 48)).alloc (.cells #[.int .i64 n] 3)) (w1.heap.size + 1 + 1) 48 #[x] ∧ w1.heap.size + 1 < w1.heap.size + 1 + 1)
    ∧ (Blk ((((w1.alloc (.cells #[.nilIface] 58)).alloc (.cells #[.slice none 0 0] 22)).alloc (.cells #[x] 48)).alloc (.cells #[.int .i64 n] 3)) (w1.heap.size + 1 + 1 + 1) 3 #[.int .i64 n] ∧ w1.heap.size + 1 + 1 < w1.heap.size + 1 + 1 + 1) := by
  have b1 := ((Blk.new w1 58 #[.nilIface]).alloc (.cells #[.slice none 0 0] 22) |>.alloc (.cells #[x] 48)).alloc (.cells #[.int .i64 n] 3)
  have b2 := ((Blk.new (w1.alloc (.cells #[.nilIface] 58)) 22 #[.slice none 0 0]).alloc (.cells #[x] 48)).alloc (.cells #[.int .i64 n] 3)
  have b3 := (Blk.new ((w1.alloc (.cells #[.nilIface] 58)).alloc (.cells #[.slice none 0 0] 22)) 48 #[x]).alloc (.cells #[.int .i64 n] 3)
  have b4 := Blk.new (((w1.alloc (.cells #[.nilIface] 58)).alloc (.cells #[.slice none 0 0] 22)).alloc (.cells #[x] 48)) 3 #[.int .i64 n]
  simp only [World.size_alloc] at b2 b3 b4
  exact ⟨b1, ⟨b2, by omega⟩, ⟨b3, by omega⟩, ⟨b4, by omega⟩⟩
set_option maxHeartbeats 8000000 in
set_option maxRecDepth 100000 in
theorem bulks_calls (R : Nat) (mark : Int) (s : ByteArray) (hs : s.size ≤ 100000) (w : World) (hG : G w) (h2 : 2 < R) (hR : Blk w R 50 #[.string s]) (hi : indexB s crlf ≠ 0) :
    Calls Tryd.prog 70 #[.agg #[.int .u8 mark], .pointer (some ⟨R, 0, none⟩)] w fun e w' => ∃ v,
      e = .returned (.tuple #[v, erV (bulksB s).2.1]) ∧ Kd.R Kd.string 9 w' w.heap.size (fun _ => True) v (bulksB s).1 ∧ ((bulksB s).2.1 = 0 → Blk w' R 50 #[.string (bulksB s).2.2]) ∧ w.grownBy w' (some R) := by
  have HG := Aside0.mk hG
  have HR := Aside0.mk hR
  have hlt := hR.lt
  clear hG hR
  refine calls_of_wp_marks 8 Tryd.func70 rfl ?_
  simp only [Tryd.ntmps70, List.size_toArray, List.length_cons, List.length_nil, Nat.reduceAdd, Nat.reduceSub, Array.replicate_succ, Array.replicate_zero, List.push_toArray, List.append_toArray, List.nil_append, List.cons_append]
  have hcall := fun W (hG : G W) (hR : Blk W R 50 #[.string s]) => head_calls R s hs (-9223372036854775808) 64 W hG hR hi
  have hsz := headB_size s (-9223372036854775808) 64
  have hn64 : (headB s (-9223372036854775808) 64).2.1 = 0 → (headB s (-9223372036854775808) 64).1 ≤ 64 := headB_hi s _ _
  have hB : bulksB s = bulksB s := rfl
  conv at hB => rhs; unfold bulksB
  generalize headB s (-9223372036854775808) 64 = p at hcall hsz hn64 hB
  obtain ⟨n, f, r⟩ := p
  simp only at hcall hsz hn64 hB
  have HB := Aside0.mk hB
  have HC := Aside0.mk hcall
  clear hB hcall hi
  go_wp2
  go_step3
  go_wp2_with fail
  refine (HC.out _ (HG.out.below (below_alloc (Below.refl _ _) _)) (HR.out.alloc _)).mono ?_
  rintro e w1 ⟨rfl, hR1, hg1⟩
  have HR1 := Aside0.mk hR1
  have hg1' := (grown_below (below_alloc (Below.refl _ w) (.cells #[.int .u8 mark] 55)) (some R))
  have HG1 := Aside0.mk (grown_trans hg1' hg1)
  have HGG := Aside0.mk (HG.out.grown HG1.out (fun r e => by cases e; exact h2))
  have hlt1 : R < w1.heap.size := hR1.lt
  clear hR1 hg1 hg1' HC
  by_cases hf : f = 0
  · subst hf
    rw [erV_zero]
    have hn := hn64 rfl
    go_wp2
    go_step3
    go_wp2_with fail
    refine (args_calls R n _).mono ?_
    rintro e w3 ⟨rfl, rfl⟩
    go_wp2
    have F0 := fr70_new w1 (.pointer (some ⟨R, 0, none⟩)) n
    have g0 : w.grownBy ((((w1.alloc (.cells #[.nilIface] 58)).alloc (.cells #[.slice none 0 0] 22)).alloc (.cells #[.pointer (some ⟨R, 0, none⟩)] 48)).alloc (.cells #[.int .i64 n] 3)) (some R) := grown_trans HG1.out (grown_below (below_alloc (below_alloc (below_alloc (below_alloc (Below.refl _ _) _) _) _) _) _)
    have r0 := (((HR1.out.alloc (.cells #[.nilIface] 58)).alloc (.cells #[.slice none 0 0] 22)).alloc (.cells #[.pointer (some ⟨R, 0, none⟩)] 48)).alloc (.cells #[.int .i64 n] 3)
    have z0 : ((((w1.alloc (.cells #[.nilIface] 58)).alloc (.cells #[.slice none 0 0] 22)).alloc (.cells #[.pointer (some ⟨R, 0, none⟩)] 48)).alloc (.cells #[.int .i64 n] 3)).heap.size = w1.heap.size + 4 := by simp
    generalize hW0 : World.alloc _ (.cells #[.int .i64 n] 3) = W0 at F0 g0 r0 z0 ⊢
    clear hW0
    have HG0 := Aside0.mk (HG.out.grown g0 (fun r e => by cases e; exact h2))
    obtain ⟨f1, f2, f3, f4⟩ := F0
    generalize w1.heap.size + 1 + 1 + 1 = nb at f4 ⊢
    generalize w1.heap.size + 1 + 1 = rb at f3 f4 ⊢
    generalize w1.heap.size + 1 = bo at f2 f3 ⊢
    have hz1 := HG1.out.size
    generalize w1.heap.size = be at f1 hlt1 z0 f2 hz1 ⊢
    clear z0
    obtain ⟨f2, l2⟩ := f2
    obtain ⟨f3, l3⟩ := f3
    obtain ⟨f4, l4⟩ := f4
    have l5 := f4.lt
    refine (wpIn_wide (n := 7)).1 ?_
    refine wpIn_rangeFunc_tells rfl (by omega) (gf := 72) (lb := #[.pointer (some ⟨nb, 0, none⟩), .pointer (some ⟨rb, 0, none⟩)]) rfl trivial (enters_of Tryd.func72 (by kernel_rfl) rfl)
      (args_tells r (by omega) R rb nb n (by omega) h2 (by omega) (by omega) W0) (fun h k => h.trans k)
      (fun W l o o' hl h _ _ => ⟨by simp, fun k hk => World.putObj_heap_other (by have := (Array.getElem?_eq_some_iff.1 h).1; omega)⟩) (Below.refl _ _) (fun _ => rfl)
      (fun A B k o ho hk hA _ => (ho.block k (Array.getElem?_eq_some_iff.1 hA).1 (fun e => by cases e; omega)).trans hA)
      (fun pre X Y row hT hg hr => ⟨hT.1, hT.2.1.keep ⟨hg.size, fun k hk => by
        have hkX : k < X.heap.size := by
          have h1 := hT.2.1.rd.lt
          have h3 := hT.2.1.rbx.lt
          have h4 := hT.2.1.nbx.lt
          have h5 := hT.2.1.g.lt
          omega
        exact hg.block k hkX (fun e => by have := (hr k e.symm).1; omega)⟩, hT.2.2⟩)
      (fun pre W => (∀ x ∈ pre, x.2 = 0) ∧ Blk W be 58 #[.nilIface] ∧ (∃ v, Blk W bo 22 #[v] ∧ Kd.R Kd.string 9 W W0.heap.size (fun k => W0.heap.size ≤ k) v (pre.map (·.1))) ∧ w.grownBy W (some R) ∧ W0.heap.size ≤ W.heap.size)
      (fun c pre W => c = .exit 0 ∧ ∃ e, e ≠ 0 ∧ wrongAt pre = e ∧ Blk W be 58 #[erV e] ∧ w.grownBy W (some R))
      ?hI ?hIx ?hIOk ?hIxOk ?h0 ?hT0
      (fun x a' _ => a' = { tmps := #[.agg #[.int .u8 mark], .pointer (some ⟨R, 0, none⟩), .pointer (some ⟨w.heap.size, 0, none⟩), undef, .slice none 0 0, .nilIface, .int .i64 n, .pointer (some ⟨be, 0, none⟩), .pointer (some ⟨bo, 0, none⟩), .string x.1, erV x.2, .tuple #[.int .i64 n, .nilIface], .pointer (some ⟨R, 0, none⟩), .tuple #[.int .i64 n, .nilIface], .int .i64 n, .nilIface, .nilIface, .bool false, undef, .pointer (some ⟨R, 0, none⟩), .int .i64 n, .func (.func 72) #[] #[.pointer (some ⟨nb, 0, none⟩), .pointer (some ⟨rb, 0, none⟩)], .string x.1, erV x.2, undef, undef, undef, undef, undef, undef, undef, undef, undef, undef, undef], defers := [] })
      (fun x a' _ _ _ _ hs _ _ => hs) ?assign ?body ?done ?stop
    case hI =>
      rintro pre X Y row ⟨h1, h3, ⟨v, h4, h5⟩, h6, h7⟩ hg hr
      refine ⟨h1, h3.grown hg (fun e => by have := (hr be e.symm).1; omega), ⟨v, h4.grown hg (fun e => by have := (hr bo e.symm).1; omega), R_own h5 hg (fun r e => (hr r e).2)⟩, ?_, Nat.le_trans h7 hg.size⟩
      exact ⟨hg.os.trans h6.os, hg.tape.trans h6.tape, hg.output.trans h6.output, Nat.le_trans h6.size hg.size, fun k hk hne => (hg.block k (Nat.lt_of_lt_of_le hk h6.size) (fun e => by have := (hr k e.symm).1; have := HG1.out.size; omega)).trans (h6.block k hk hne)⟩
    case hIx =>
      rintro c pre X Y row ⟨h1, e, h3, h4, h5, h6⟩ hg hr
      refine ⟨h1, e, h3, h4, h5.grown hg (fun e => by have := (hr be e.symm).1; omega), ?_⟩
      exact ⟨hg.os.trans h6.os, hg.tape.trans h6.tape, hg.output.trans h6.output, Nat.le_trans h6.size hg.size, fun k hk hne => (hg.block k (Nat.lt_of_lt_of_le hk h6.size) (fun e => by have := (hr k e.symm).1; have := HG1.out.size; omega)).trans (h6.block k hk hne)⟩
    case hIOk =>
      rintro pre X Y ⟨h1, h3, ⟨v, h4, h5⟩, h6, h7⟩ hg
      exact ⟨h1, h3.grown hg (fun e => by cases e; omega), ⟨v, h4.grown hg (fun e => by cases e; omega), Kd.R_grown h5 hg (fun k hk e => by cases e; omega)⟩, grown_trans h6 hg, Nat.le_trans h7 hg.size⟩
    case hIxOk =>
      rintro c pre X Y ⟨h1, e, h3, h4, h5, h6⟩ hg
      exact ⟨h1, e, h3, h4, h5.grown hg (fun e => by cases e; omega), grown_trans h6 hg⟩
    case h0 => exact ⟨by simp, f1, ⟨_, f2, Kd.R_nil _ _ _ _ _⟩, g0, Nat.le_refl _⟩
    case hT0 => exact ⟨rfl, ⟨HG0.out, r0, f3, f4⟩, Nat.zero_le _⟩
    case assign =>
      rintro lp pre x W K hI hT hK
      simp only [ienc] at hK ⊢
      gi_wp2
      exact hK _ _ (KeepsFrom.refl _ _) ⟨Nat.le_refl _, fun _ _ => rfl⟩ hT hI rfl
    case body =>
      rintro lp pre x a' W hl hrec ⟨h1, h3, ⟨v, h4, h5⟩, h6, hsz0⟩ hT rfl
      have q1 : W.cell? ⟨be, 0, none⟩ = some .nilIface := h3.cell 0
      have q1f := h3.frozen 0
      have q2 : W.cell? ⟨bo, 0, none⟩ = some v := h4.cell 0
      have q2f := h4.frozen 0
      by_cases hx : x.2 = 0
      · rw [hx, erV_zero]
        have hTR := hT.2.2
        rw [List.length_append, List.length_singleton] at hTR
        have RG := Kd.R_grown h5 (grownBy_setCell' W be .nilIface) (fun k hk e => by cases e; omega)
        have hown := fun k hk => Kd.R_own_ge h5 k hk
        gi_wp2_with (first | (gi_at_builtin; refine append_in rfl _ _ rfl W0.heap.size v (pre.map (·.1)) x.1 rfl (by rw [World.size_setCell]; rfl) RG (by simp; exact hsz0) (by rw [List.length_map]; omega) ?_; intro v1 w5 hR5 hg5; have HR5 := Aside0.mk hR5; have hS5 := Kd.R_slice hR5; generalize (pre.map (·.1) ++ [x.1]).length = m5 at hS5; obtain ⟨A1, c1, rfl⟩ := hS5; have c5 : w5.cell? ⟨bo, 0, none⟩ = some v := (World.cell?_of_block (hg5.block bo (by simp; omega) (fun e => by have := hown bo e.symm; omega))).trans (by rw [World.cell?_alloc_lt _ _ _ (by simp; omega), World.cell?_setCell_far _ _ _ _ (by simp; omega)]; exact q2); have c5f : w5.frozen? ⟨bo, 0, none⟩ = false := (World.frozen?_of_block (hg5.block bo (by simp; omega) (fun e => by have := hown bo e.symm; omega))).trans (by rw [World.frozen?_alloc_old _ _ _ (by simp; omega)]; simpa using q2f)))
        obtain ⟨k1, k2, k3, k4, k5, k6, k7⟩ := round70 (R := R) (rb := rb) (nb := nb) hz1 l2 l3 l4 l5 hsz0 hlt1 h2 h3 h4 h5 h6 HR5.out hg5
        refine ⟨k1, k2, ?_, k3, ⟨_, k4, by rw [List.map_append]; exact k5⟩, k6, k7⟩
        intro y hy
        rcases List.mem_append.1 hy with hy | hy
        · exact h1 y hy
        · obtain rfl := List.mem_singleton.1 hy
          exact hx
      · rw [erV_ne hx]
        gi_wp2
        refine ⟨(KeepsOthers.setCell _ _ _).from _, rfl, x.2, hx, wrongAt_snoc _ _ h1, ?_, grown_far h6 (grownBy_setCell' W be _) (fun k e => by cases e; omega)⟩
        rw [erV_ne hx]
        exact h3.set 0 _
    case done =>
      rintro D ys W hD rfl hT ⟨h1, h3, ⟨v, h4, h5⟩, h6, hsz0⟩ hK
      have q1 : W.cell? ⟨be, 0, none⟩ = some .nilIface := h3.cell 0
      have q2 : W.cell? ⟨bo, 0, none⟩ = some v := h4.cell 0
      have hw0 := wrongAt_zero _ h1
      have HT := Aside0.mk hT
      have H5 := Aside0.mk h5
      have H6 := Aside0.mk h6
      have HK := Aside0.mk hK
      have hS := Kd.R_slice h5
      have hDl : D < W.heap.size := (Array.getElem?_eq_some_iff.1 hK).1
      clear hT h1 h3 h4 h5 h6 hK
      generalize (List.map (fun x : ByteArray × Int => x.1) (itemsB r n.toNat)).length = m at hS
      obtain ⟨A, c, rfl⟩ := hS
      go_wp2
      rw [Exit.noGoto_ret]
      refine ⟨by simp, .inl ⟨_, _, rfl, run_takeDeferred HK.out, ?_⟩⟩
      refine ⟨_, results_tmp2 rfl _ _ _, .slice A m c, ?_, ?_, ?_, ?_⟩
      · rw [HB.out, if_neg (by simp), if_neg (by rw [hw0]; simp)]
        rfl
      · rw [HB.out, if_neg (by simp), if_neg (by rw [hw0]; simp)]
        exact Kd.R_mono (Kd.R_lower (R_own H5.out (grownBy_putObj' W D _) (fun r e => by cases e; exact ⟨_, HK.out, rfl⟩)) (by omega)) (fun _ _ => trivial)
      · rw [HB.out, if_neg (by simp), if_neg (by rw [hw0]; simp)]
        intro _
        have hR2 := HT.out.2.1.rd
        rw [itemsB_len] at hR2
        exact (World.putObj_heap_other (by have := HT.out.2.1.rd.lt; omega)).trans hR2
      · exact grown_far H6.out (grownBy_putObj' W D _) (fun k e => by cases e; omega)
    case stop =>
      rintro D cc pre W hD hpre ⟨rfl, e, he, hw, h3, h6⟩ hK
      have q1 : W.cell? ⟨be, 0, none⟩ = some (erV e) := h3.cell 0
      rw [erV_ne he] at q1
      have hw2 : wrongAt (itemsB r n.toNat) = e := (wrongAt_prefix hpre (by rw [hw]; exact he)).trans hw
      have H6 := Aside0.mk h6
      have HK := Aside0.mk hK
      have hDl : D < W.heap.size := (Array.getElem?_eq_some_iff.1 hK).1
      clear hw h3 h6 hK hpre
      gi_wp2
      go_wp2
      go_region
      have HKd : W.drew.heap[D]? = some (.deferred (some [])) := HK.out
      have H6d : w.grownBy W.drew (some R) := grown_far H6.out (grown_below (below_drew (Below.refl _ W)) none) (fun k e => by cases e)
      generalize World.drew W = W9 at HKd H6d ⊢
      clear HK H6 q1
      go_wp2
      rw [Exit.noGoto_ret]
      refine ⟨by simp, .inl ⟨_, _, rfl, run_takeDeferred HKd, ?_⟩⟩
      refine ⟨_, results_tmp2 rfl _ _ _, .slice none 0 0, ?_, ?_, ?_, ?_⟩
      · rw [HB.out, if_neg (by simp), if_pos (by rw [hw2]; exact he), hw2, erV_ne he]
        rfl
      · rw [HB.out, if_neg (by simp), if_pos (by rw [hw2]; exact he)]
        exact Kd.R_nil _ _ _ _ _
      · rw [HB.out, if_neg (by simp), if_pos (by rw [hw2]; exact he), hw2]
        exact fun h => absurd h he
      · exact grown_far H6d (grownBy_putObj' W9 D _) (fun k e => by cases e; omega)
  · rw [erV_ne hf]
    go_wp2
    go_region
    go_wp2
    rw [Exit.noGoto_ret]
    refine postM_ret rfl (results_tmp2 rfl _ _ _) ⟨.slice none 0 0, ?_, ?_, ?_, ?_⟩
    · rw [HB.out, if_pos hf, erV_ne hf]
      rfl
    · rw [HB.out, if_pos hf]
      exact Kd.R_nil _ _ _ _ _
    · rw [HB.out, if_pos hf]
      exact fun h => absurd h hf
    · exact grown_trans HG1.out (grown_below (below_alloc (Below.refl _ _) _).drew _)
end Go.Proofs.YtjcbbmjmhfimcaaDoor.P
