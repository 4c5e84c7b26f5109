/- What 'flags.Read' answers: the flags of the words that a list begins with. Conditions: that the list has at most a thousand words, of at most a thousand bytes. -/
import Derived.Test.YtndjbhibajjaoaaPH6
namespace Go.Proofs.Ytndjbhibajjaoaa.P
open Go.RowKit Go.Shelf Go.Proofs.YtndjbhibajjaoaaW.PrintWords Go.Proofs.YtndjbhibajjaoaaW.PrintLast Go.Proofs.YtndjbhibajjaoaaW.PrintMore
attribute [local go_sem] Oper.semAt_some

/-- A block of cells that can be written. -/
def Blk (W : World) (B : Nat) (T : TypeId) (cs : Array Value) : Prop := W.heap[B]? = some (.cells cs T (0, 0))
theorem Blk.own {β : Type} (B : Nat) (T : TypeId) (f : β → Array Value) : Own (fun s W => Blk W B T (f s)) := by
  intro s X Y row hs hg hrow
  have hlt : B < X.heap.size := (Array.getElem?_eq_some_iff.1 hs).1
  refine (hg.block B hlt (fun e => ?_)).trans hs
  obtain ⟨o, ho, hc⟩ := hrow B e.symm
  rw [show X.heap[B]? = _ from hs] at ho
  cases ho
  cases hc
theorem Blk.below {W W' : World} {B : Nat} {T : TypeId} {cs : Array Value} (h : Blk W B T cs) (hb : Below W.heap.size W W') : Blk W' B T cs := (hb.block B (Array.getElem?_eq_some_iff.1 h).1).trans h
theorem Blk.lt {W : World} {B : Nat} {T : TypeId} {cs : Array Value} (h : Blk W B T cs) : B < W.heap.size := (Array.getElem?_eq_some_iff.1 h).1
theorem Blk.cell {W : World} {B : Nat} {T : TypeId} {cs : Array Value} (h : Blk W B T cs) (j : Nat) : W.cell? ⟨B, j, none⟩ = cs[j]? := by simp [World.cell?, show W.heap[B]? = _ from h]
theorem Blk.frozen {W : World} {B : Nat} {T : TypeId} {cs : Array Value} (h : Blk W B T cs) (j : Nat) : W.frozen? ⟨B, j, none⟩ = false := by simp [World.frozen?, show W.heap[B]? = _ from h]
theorem Blk.alloc {W : World} {B : Nat} {T : TypeId} {cs : Array Value} (h : Blk W B T cs) (o : Obj) : Blk (W.alloc o) B T cs := h.below ((Below.refl _ _).alloc (Nat.le_refl _) _)
theorem Blk.new (W : World) (T : TypeId) (cs : Array Value) : Blk (W.alloc (.cells cs T)) W.heap.size T cs := World.alloc_heap_new W _
theorem Blk.set {W : World} {B : Nat} {T : TypeId} {cs : Array Value} (h : Blk W B T cs) (j : Nat) (v : Value) : Blk (W.setCell ⟨B, j, none⟩ v) B T (cs.setIfInBounds j v) := by
  obtain ⟨hlt, hk⟩ := Array.getElem?_eq_some_iff.1 h
  show (W.heap.modify B _)[B]? = _
  rw [Array.getElem?_eq_getElem (by rw [Array.size_modify]; exact hlt), Array.getElem_modify_self, hk]
  rfl
theorem Blk.other {W : World} {B B' : Nat} {T : TypeId} {cs : Array Value} (h : Blk W B T cs) (hne : B ≠ B') (j : Nat) (v : Value) : Blk (W.setCell ⟨B', j, none⟩ v) B T cs := (Below.heap_setCell W ⟨B', j, none⟩ v B hne).trans h

theorem Blk.drew {W : World} {B : Nat} {T : TypeId} {cs : Array Value} (h : Blk W B T cs) : Blk W.drew B T cs := h
theorem heap_drew {W : World} {D : Nat} {o : Obj} (h : W.heap[D]? = some o) : W.drew.heap[D]? = some o := h
/-- The six flags of some words. -/
def fls (pre : List (Fin 6)) : Array Value := #[.bool (decide ((0 : Fin 6) ∈ pre)), .bool (decide ((1 : Fin 6) ∈ pre)), .bool (decide ((2 : Fin 6) ∈ pre)), .bool (decide ((3 : Fin 6) ∈ pre)), .bool (decide ((4 : Fin 6) ∈ pre)), .bool (decide ((5 : Fin 6) ∈ pre))]
theorem fls_snoc (pre : List (Fin 6)) (k : Fin 6) : fls (pre ++ [k]) = (fls pre).setIfInBounds k.val (.bool true) := by
  revert k
  intro ⟨k, hk⟩
  have h6 : k = 0 ∨ k = 1 ∨ k = 2 ∨ k = 3 ∨ k = 4 ∨ k = 5 := by omega
  rcases h6 with rfl | rfl | rfl | rfl | rfl | rfl <;> simp [fls]
theorem len_snoc {α : Type} (pre : List α) (k : α) : (#[.int .i64 ((pre ++ [k]).length : Int)] : Array Value) = (#[.int .i64 (pre.length : Int)] : Array Value).setIfInBounds 0 (.int .i64 ((pre.length : Int) + 1)) := by simp
theorem at_calls (k : Fin 6) (B : Nat) (w : World) : Calls Try.prog (29 + k.val) #[.pointer (some ⟨B, 0, none⟩)] w fun e w' => e = .returned (.pointer (some ⟨B, k.val, none⟩)) ∧ w = w' := by
  revert k
  intro ⟨k, hk⟩
  have h6 : k = 0 ∨ k = 1 ∨ k = 2 ∨ k = 3 ∨ k = 4 ∨ k = 5 := by omega
  rcases h6 with rfl | rfl | rfl | rfl | rfl | rfl
  · go_enter Try.func29, Try.ntmps29
    go_wp2
    go_ret
    exact ⟨rfl, rfl⟩
  · go_enter Try.func30, Try.ntmps30
    go_wp2
    go_ret
    exact ⟨rfl, rfl⟩
  · go_enter Try.func31, Try.ntmps31
    go_wp2
    go_ret
    exact ⟨rfl, rfl⟩
  · go_enter Try.func32, Try.ntmps32
    go_wp2
    go_ret
    exact ⟨rfl, rfl⟩
  · go_enter Try.func33, Try.ntmps33
    go_wp2
    go_ret
    exact ⟨rfl, rfl⟩
  · go_enter Try.func34, Try.ntmps34
    go_wp2
    go_ret
    exact ⟨rfl, rfl⟩
theorem known_calls (A : Option Addr) (n c : Nat) (w : World) : Calls Try.prog 23 #[.slice A n c] w fun e w' => e = .returned (.func (.func 27) #[] #[.pointer (some ⟨w.heap.size, 0, none⟩)]) ∧ w' = w.alloc (.cells #[.slice A n c] 31) := by
  go_enter Try.func23, Try.ntmps23
  go_wp2
  go_ret
  exact ⟨rfl, rfl⟩
/-- What known's value promises a loop over it. -/
theorem known_stops (l : List ByteArray) (hs : ∀ s ∈ l, s.size ≤ 1000) (A : Option Addr) (c : Nat) (w0 : World) (hC : Kd.C Kd.string w0 A l.length l) (hlen : l.length ≤ 1000) (Bs : Nat) (w : World) (hb : Below w0.heap.size w0 w) (hlt : Bs < w.heap.size) (hBs : w.cell? ⟨Bs, 0, none⟩ = some (.slice A l.length c)) :
    SeqStopsK Fence.wide 6 Try.prog 27 #[.pointer (some ⟨Bs, 0, none⟩)] wenc (Below w0.heap.size) (fun ys => ys = knw l) (fun pre => pre <+: knw l) l.length w := fun lp J Jx W hW hJ _ hY h0 => by
  exact callsIn_wide.2 (known1 l hs A c w0 hC hlen Bs lp J Jx (fun s X Y hs hb => hJ s X Y none hs ⟨hb.os, hb.tape, hb.output, hb.size, fun k hk _ => hb.block k hk⟩ (fun r e => by cases e)) hY W (hb.trans (hW.mono hb.size)) ((hW.cell (p := ⟨Bs, 0, none⟩) hlt).trans hBs) h0)
theorem calls_of_wp_marks {P : Program} {f : FuncId} {fn : Func} {c : Code} {args : Array Value} {w : World} {R : Ending → World → Prop} (n : Nat)
    (hf : P.funcs[f]? = some fn) (hb : fn.body = some c) (h : c.wp P (bodyPostM Fence.wide n P fn R) { tmps := args ++ Array.replicate (fn.ntmps - args.size) undef, defers := [] } w) : Calls P f args w R :=
  callsIn_wide.1 (callsIn_of_wp_marks hf hb trivial (wpIn_wide.2 h) rfl)
theorem six_set {W : World} {B : Nat} (h : Blk W B 23 (fls [])) (x0 x1 x2 x3 x4 x5 : Bool) : Blk ((((((W.setCell ⟨B, 0, none⟩ (.bool x0)).setCell ⟨B, 1, none⟩ (.bool x1)).setCell ⟨B, 2, none⟩ (.bool x2)).setCell ⟨B, 3, none⟩ (.bool x3)).setCell ⟨B, 4, none⟩ (.bool x4)).setCell ⟨B, 5, none⟩ (.bool x5)) B 23 #[.bool x0, .bool x1, .bool x2, .bool x3, .bool x4, .bool x5] := by
  have := (((((h.set 0 (.bool x0)).set 1 (.bool x1)).set 2 (.bool x2)).set 3 (.bool x3)).set 4 (.bool x4)).set 5 (.bool x5)
  simpa [fls] using this
theorem six_keeps (W : World) (B : Nat) (v0 v1 v2 v3 v4 v5 : Value) : KeepsOthers W ((((((W.setCell ⟨B, 0, none⟩ v0).setCell ⟨B, 1, none⟩ v1).setCell ⟨B, 2, none⟩ v2).setCell ⟨B, 3, none⟩ v3).setCell ⟨B, 4, none⟩ v4).setCell ⟨B, 5, none⟩ v5) :=
  (((((KeepsOthers.setCell _ _ _).trans (KeepsOthers.setCell _ _ _)).trans (KeepsOthers.setCell _ _ _)).trans (KeepsOthers.setCell _ _ _)).trans (KeepsOthers.setCell _ _ _)).trans (KeepsOthers.setCell _ _ _)
theorem six_below {w W : World} (h : Below w.heap.size w W) {B : Nat} (hB : w.heap.size ≤ B) (v0 v1 v2 v3 v4 v5 : Value) : Below w.heap.size w ((((((W.setCell ⟨B, 0, none⟩ v0).setCell ⟨B, 1, none⟩ v1).setCell ⟨B, 2, none⟩ v2).setCell ⟨B, 3, none⟩ v3).setCell ⟨B, 4, none⟩ v4).setCell ⟨B, 5, none⟩ v5) :=
  (((((h.setCell (p := ⟨B, 0, none⟩) hB _).setCell (p := ⟨B, 1, none⟩) hB _).setCell (p := ⟨B, 2, none⟩) hB _).setCell (p := ⟨B, 3, none⟩) hB _).setCell (p := ⟨B, 4, none⟩) hB _).setCell (p := ⟨B, 5, none⟩) hB _
set_option maxHeartbeats 1000000 in
theorem read_end (w W : World) (D : Nat) (x0 x1 x2 x3 x4 x5 : Bool) (n e : Int) (v0 v1 v5 v6 v7 v8 v9 v10 v11 v12 v13 v14 v15 v16 v17 v18 v19 v20 v21 v22 : Value) (hB : Blk W w.heap.size 23 #[.bool x0, .bool x1, .bool x2, .bool x3, .bool x4, .bool x5]) (hK : W.heap[D]? = some (.deferred (some []))) (hD : w.heap.size < D) (hb : Below w.heap.size w W) (R : Value) (hR : R = .tuple #[.agg #[.bool x0, .bool x1, .bool x2, .bool x3, .bool x4, .bool x5], .int .i64 n, .int .i64 e]) :
    bodyPostM Fence.wide 8 Try.prog Try.f14 (fun e' w' => e' = .returned R ∧ Below w.heap.size w w') .ret { tmps := #[v0, v1, .pointer (some ⟨w.heap.size, 0, none⟩), .int .i64 n, .int .i64 e, v5, v6, v7, v8, v9, v10, v11, v12, v13, v14, v15, v16, v17, v18, v19, v20, v21, v22], defers := [{ target := .collected D, args := #[] }] } W := by
  subst hR
  refine ⟨by simp, .inl ⟨_, _, rfl, run_takeDeferred hK, ?_⟩⟩
  have hB2 : Blk (W.putObj D (.deferred none)) w.heap.size 23 #[.bool x0, .bool x1, .bool x2, .bool x3, .bool x4, .bool x5] := (World.putObj_heap_other (by omega)).trans hB
  have r0 : (W.putObj D (.deferred none)).cell? ⟨w.heap.size, 0, none⟩ = some (.bool x0) := hB2.cell 0
  have r1 : (W.putObj D (.deferred none)).cell? ⟨w.heap.size, 1, none⟩ = some (.bool x1) := hB2.cell 1
  have r2 : (W.putObj D (.deferred none)).cell? ⟨w.heap.size, 2, none⟩ = some (.bool x2) := hB2.cell 2
  have r3 : (W.putObj D (.deferred none)).cell? ⟨w.heap.size, 3, none⟩ = some (.bool x3) := hB2.cell 3
  have r4 : (W.putObj D (.deferred none)).cell? ⟨w.heap.size, 4, none⟩ = some (.bool x4) := hB2.cell 4
  have r5 : (W.putObj D (.deferred none)).cell? ⟨w.heap.size, 5, none⟩ = some (.bool x5) := hB2.cell 5
  refine ⟨.tuple #[.agg #[.bool x0, .bool x1, .bool x2, .bool x3, .bool x4, .bool x5], .int .i64 n, .int .i64 e], ?_, rfl, hb.trans (belowK_b (w := w) (Nat.le_refl _) W D _ _ (by omega) hK rfl rfl)⟩
  simp [results, Try.f14, go_sem, r0, r1, r2, r3, r4, r5]
set_option maxHeartbeats 8000000 in
set_option maxRecDepth 100000 in
theorem read_calls (l : List ByteArray) (hs : ∀ s ∈ l, s.size ≤ 1000) (A : Option Addr) (c : Nat) (w : World) (hC : Kd.C Kd.string w A l.length l) (hlen : l.length ≤ 1000) (ok : Bool) (hr : flags_Right.f (decide ((0 : Fin 6) ∈ knw l)) (decide ((1 : Fin 6) ∈ knw l)) (decide ((2 : Fin 6) ∈ knw l)) (decide ((3 : Fin 6) ∈ knw l)) (decide ((4 : Fin 6) ∈ knw l)) (decide ((5 : Fin 6) ∈ knw l)) = some ok) :
    Calls Try.prog 14 #[.slice A l.length c] w fun e w' => e = .returned (if ok = true then .tuple #[.agg (fls (knw l)), .int .i64 (knw l).length, .int .i64 0] else .tuple #[.agg (fls []), .int .i64 0, .int .i64 110]) ∧ Below w.heap.size w w' := by
  have HC := Aside0.mk hC
  have HR := Aside0.mk hr
  have HS := Aside0.mk hs
  clear hC hr hs
  refine calls_of_wp_marks 8 Try.func14 rfl ?_
  simp only [Try.ntmps14, List.size_toArray, List.length_cons, List.length_nil, Nat.reduceAdd, Nat.reduceSub, Array.replicate_succ, Array.replicate_zero, List.push_toArray, List.append_toArray, List.nil_append, List.cons_append]
  go_wp2_with fail
  refine (known_calls _ _ _ _).mono ?_
  rintro e w' ⟨rfl, rfl⟩
  go_wp2
  have b0 : Blk ((((w.alloc (.cells #[.bool false, .bool false, .bool false, .bool false, .bool false, .bool false] 23)).alloc (.cells #[.bool false, .bool false, .bool false, .bool false, .bool false, .bool false] 23)).alloc (.cells #[.int .i64 0] 3)).alloc (.cells #[.slice A l.length c] 31)) w.heap.size 23 (fls []) := (((Blk.new w 23 _).alloc _).alloc _).alloc _
  have b1 : Blk ((((w.alloc (.cells #[.bool false, .bool false, .bool false, .bool false, .bool false, .bool false] 23)).alloc (.cells #[.bool false, .bool false, .bool false, .bool false, .bool false, .bool false] 23)).alloc (.cells #[.int .i64 0] 3)).alloc (.cells #[.slice A l.length c] 31)) (w.heap.size + 1) 23 (fls []) := by
    have := ((Blk.new (w.alloc (.cells #[.bool false, .bool false, .bool false, .bool false, .bool false, .bool false] 23)) 23 (fls [])).alloc (.cells #[.int .i64 0] 3)).alloc (.cells #[.slice A l.length c] 31)
    rwa [World.size_alloc] at this
  have b2 : Blk ((((w.alloc (.cells #[.bool false, .bool false, .bool false, .bool false, .bool false, .bool false] 23)).alloc (.cells #[.bool false, .bool false, .bool false, .bool false, .bool false, .bool false] 23)).alloc (.cells #[.int .i64 0] 3)).alloc (.cells #[.slice A l.length c] 31)) (w.heap.size + 1 + 1) 3 #[.int .i64 0] := by
    have := (Blk.new ((w.alloc (.cells #[.bool false, .bool false, .bool false, .bool false, .bool false, .bool false] 23)).alloc (.cells #[.bool false, .bool false, .bool false, .bool false, .bool false, .bool false] 23)) 3 #[.int .i64 0]).alloc (.cells #[.slice A l.length c] 31)
    rwa [World.size_alloc, World.size_alloc] at this
  have hB0 : Below w.heap.size w ((((w.alloc (.cells #[.bool false, .bool false, .bool false, .bool false, .bool false, .bool false] 23)).alloc (.cells #[.bool false, .bool false, .bool false, .bool false, .bool false, .bool false] 23)).alloc (.cells #[.int .i64 0] 3)).alloc (.cells #[.slice A l.length c] 31)) := below_alloc (below_alloc (below_alloc (below_alloc (Below.refl _ _) _) _) _) _
  have b3 : Blk ((((w.alloc (.cells #[.bool false, .bool false, .bool false, .bool false, .bool false, .bool false] 23)).alloc (.cells #[.bool false, .bool false, .bool false, .bool false, .bool false, .bool false] 23)).alloc (.cells #[.int .i64 0] 3)).alloc (.cells #[.slice A l.length c] 31)) (w.heap.size + 1 + 1 + 1) 31 #[.slice A l.length c] := by
    have := Blk.new (((w.alloc (.cells #[.bool false, .bool false, .bool false, .bool false, .bool false, .bool false] 23)).alloc (.cells #[.bool false, .bool false, .bool false, .bool false, .bool false, .bool false] 23)).alloc (.cells #[.int .i64 0] 3)) 31 #[.slice A l.length c]
    rwa [World.size_alloc, World.size_alloc, World.size_alloc] at this
  have hz : ((((w.alloc (.cells #[.bool false, .bool false, .bool false, .bool false, .bool false, .bool false] 23)).alloc (.cells #[.bool false, .bool false, .bool false, .bool false, .bool false, .bool false] 23)).alloc (.cells #[.int .i64 0] 3)).alloc (.cells #[.slice A l.length c] 31)).heap.size = w.heap.size + 4 := by simp
  generalize hW0 : World.alloc _ (.cells #[.slice A l.length c] 31) = W0 at b3 b0 b1 b2 hB0 hz ⊢
  clear hW0
  refine (wpIn_wide (n := 7)).1 ?_
  refine wpIn_rangeFunc_ownH rfl (by omega) (gf := 27) (lb := #[.pointer (some ⟨w.heap.size + 1 + 1 + 1, 0, none⟩)]) rfl trivial (enters_of Try.func27 (by kernel_rfl) rfl)
    (known_stops l HS.out A c w HC.out hlen (w.heap.size + 1 + 1 + 1) W0 hB0 (by omega) (b3.cell 0)) belowK_t (belowK_b (by omega)) (Below.refl _ _) (fun _ => rfl)
    (fun pre W => (Blk W w.heap.size 23 (fls []) ∧ Blk W (w.heap.size + 1) 23 (fls pre) ∧ Blk W (w.heap.size + 1 + 1) 3 #[.int .i64 pre.length]) ∧ Below w.heap.size w W)
    (fun _ _ _ => False)
    (OwnFrom.and (Own.from (fun s X Y row hs hg hr => ⟨Blk.own _ _ (fun _ : Unit => _) () X Y row hs.1 hg hr, Blk.own _ _ (fun _ : Unit => _) () X Y row hs.2.1 hg hr, Blk.own _ _ (fun _ : Unit => _) () X Y row hs.2.2 hg hr⟩) _) (ownFrom_below (Nat.le_refl _) (by omega)))
    (fun _ _ _ _ _ hs _ _ => hs)
    ⟨⟨b0, b1, b2⟩, hB0⟩
    (fun x a' W => ∃ Bx, w.heap.size + 2 < Bx ∧ Blk W Bx 46 #[.string (wd x.val), .func (.func (29 + x.val)) #[] #[]] ∧ a' = { tmps := #[.slice A l.length c, undef, .pointer (some ⟨w.heap.size, 0, none⟩), .int .i64 0, .int .i64 0, .pointer (some ⟨w.heap.size + 1, 0, none⟩), .pointer (some ⟨w.heap.size + 1 + 1, 0, none⟩), .pointer (some ⟨Bx, 0, none⟩), .slice A l.length c, .func (.func 27) #[] #[.pointer (some ⟨w.heap.size + 1 + 1 + 1, 0, none⟩)], wv x.val, undef, undef, undef, undef, undef, undef, undef, undef, undef, undef, undef, undef], defers := [] })
    (fun x a' => Own.from (fun s X Y row hs hg hr => by
      obtain ⟨Bx, h1, h2, h3⟩ := hs
      exact ⟨Bx, h1, Blk.own _ _ (fun _ : Unit => _) () X Y row h2 hg hr, h3⟩) _)
    ?assign ?body ?done ?stop
  case assign =>
    rintro lp pre x W K ⟨⟨c0, c1, c2⟩, hB⟩ hK
    simp only [wenc, wv] at hK ⊢
    gi_wp2
    exact hK _ _ ((KeepsOthers.alloc _ _).from _) ((Below.refl _ W).alloc hB.size _) ⟨⟨c0.alloc _, c1.alloc _, c2.alloc _⟩, below_alloc hB _⟩ ⟨W.heap.size, c2.lt, Blk.new W 46 _, rfl⟩
  case body =>
    rintro lp pre x a' W hl hrec ⟨⟨c0, c1, c2⟩, hB⟩ ⟨Bx, hBx, bX, rfl⟩ hlt
    have hat := fun u => at_calls x (w.heap.size + 1) u
    have hX1 : W.cell? ⟨Bx, 1, none⟩ = some (.func (.func (29 + x.val)) #[] #[]) := bX.cell 1
    have hF : ∃ v, W.cell? ⟨w.heap.size + 1, x.val, none⟩ = some v := by
      rw [c1.cell]
      exact ⟨_, Array.getElem?_eq_getElem (by simp [fls])⟩
    obtain ⟨vF, hF⟩ := hF
    have hFf := c1.frozen x.val
    have hN : W.cell? ⟨w.heap.size + 1 + 1, 0, none⟩ = some (.int .i64 pre.length) := c2.cell 0
    have hNf := c2.frozen 0
    have hfin : ∀ v, KeepsFrom W0.heap.size W ((W.setCell ⟨w.heap.size + 1, x.val, none⟩ (.bool true)).setCell ⟨w.heap.size + 1 + 1, 0, none⟩ v) := fun v => ((KeepsOthers.setCell _ _ _).trans (KeepsOthers.setCell _ _ _)).from _
    have hlen2 : (pre.length : Int) < 1000 := by omega
    have FS := fls_snoc pre x
    obtain ⟨k, hk⟩ := x
    have h6 : k = 0 ∨ k = 1 ∨ k = 2 ∨ k = 3 ∨ k = 4 ∨ k = 5 := by omega
    rcases h6 with rfl | rfl | rfl | rfl | rfl | rfl
    all_goals
      have FSH := Aside0.mk FS
      clear FS
      gi_wp2_with fail
      refine ⟨trivial, (CallsIn.inRound lp (callsIn_wide.2 (hat W))).mono ?_⟩
      rintro e w1 ⟨rfl, rfl⟩
      gi_wp2
      refine ⟨hfin _, ((Below.refl w.heap.size W).setCell (p := ⟨w.heap.size + 1, _, none⟩) (by simp) _).setCell (p := ⟨w.heap.size + 1 + 1, 0, none⟩) (by simp; omega) _, ⟨(c0.other (by omega) _ _).other (by omega) _ _, ?_, ?_⟩, (hB.setCell (p := ⟨w.heap.size + 1, _, none⟩) (by simp) _).setCell (p := ⟨w.heap.size + 1 + 1, 0, none⟩) (by simp; omega) _⟩
      · rw [FSH.out]
        exact (c1.set _ _).other (by omega) _ _
      · rw [len_snoc]
        exact (c2.other (by omega) _ _).set 0 _
  case done =>
    rintro D ys W hD rfl ⟨⟨c0, c1, c2⟩, hB⟩ hK
    have hDs : w.heap.size + 3 < D := by omega
    have hDl : D < W.heap.size := (Array.getElem?_eq_some_iff.1 hK).1
    generalize hys : knw l = ys at c1 c2 HR ⊢
    have HYS := Aside0.mk hys
    clear hys hlen
    have q0 : W.cell? ⟨w.heap.size + 1, 0, none⟩ = some (.bool (decide ((0 : Fin 6) ∈ ys))) := c1.cell 0
    have q1 : W.cell? ⟨w.heap.size + 1, 1, none⟩ = some (.bool (decide ((1 : Fin 6) ∈ ys))) := c1.cell 1
    have q2 : W.cell? ⟨w.heap.size + 1, 2, none⟩ = some (.bool (decide ((2 : Fin 6) ∈ ys))) := c1.cell 2
    have q3 : W.cell? ⟨w.heap.size + 1, 3, none⟩ = some (.bool (decide ((3 : Fin 6) ∈ ys))) := c1.cell 3
    have q4 : W.cell? ⟨w.heap.size + 1, 4, none⟩ = some (.bool (decide ((4 : Fin 6) ∈ ys))) := c1.cell 4
    have q5 : W.cell? ⟨w.heap.size + 1, 5, none⟩ = some (.bool (decide ((5 : Fin 6) ∈ ys))) := c1.cell 5
    have qn : W.cell? ⟨w.heap.size + 1 + 1, 0, none⟩ = some (.int .i64 ys.length) := c2.cell 0
    have hfl : fls ys = #[.bool (decide ((0 : Fin 6) ∈ ys)), .bool (decide ((1 : Fin 6) ∈ ys)), .bool (decide ((2 : Fin 6) ∈ ys)), .bool (decide ((3 : Fin 6) ∈ ys)), .bool (decide ((4 : Fin 6) ∈ ys)), .bool (decide ((5 : Fin 6) ∈ ys))] := rfl
    have HFL := Aside0.mk hfl
    clear hfl
    generalize decide ((0 : Fin 6) ∈ ys) = x0 at q0 HR HFL
    generalize decide ((1 : Fin 6) ∈ ys) = x1 at q1 HR HFL
    generalize decide ((2 : Fin 6) ∈ ys) = x2 at q2 HR HFL
    generalize decide ((3 : Fin 6) ∈ ys) = x3 at q3 HR HFL
    generalize decide ((4 : Fin 6) ∈ ys) = x4 at q4 HR HFL
    generalize decide ((5 : Fin 6) ∈ ys) = x5 at q5 HR HFL
    go_wp2_with fail
    refine (flags_Right.calls _ _ _ _ _ _ _ _ HR.out).mono ?_
    rintro e w2 ⟨rfl, hb2⟩
    have hK2 : w2.heap[D]? = some (.deferred (some [])) := (hb2.block D hDl).trans hK
    have d0 := c0.below hb2
    have d1 := c1.below hb2
    have d2 := c2.below hb2
    have hB2 : Below w.heap.size w w2 := hB.trans (hb2.mono hB.size)
    have hD2 : D < w2.heap.size := (Array.getElem?_eq_some_iff.1 hK2).1
    replace q0 := (hb2.cell (p := ⟨w.heap.size + 1, 0, none⟩) c1.lt).trans q0
    replace q1 := (hb2.cell (p := ⟨w.heap.size + 1, 1, none⟩) c1.lt).trans q1
    replace q2 := (hb2.cell (p := ⟨w.heap.size + 1, 2, none⟩) c1.lt).trans q2
    replace q3 := (hb2.cell (p := ⟨w.heap.size + 1, 3, none⟩) c1.lt).trans q3
    replace q4 := (hb2.cell (p := ⟨w.heap.size + 1, 4, none⟩) c1.lt).trans q4
    replace q5 := (hb2.cell (p := ⟨w.heap.size + 1, 5, none⟩) c1.lt).trans q5
    replace qn := (hb2.cell (p := ⟨w.heap.size + 1 + 1, 0, none⟩) c2.lt).trans qn
    have z0 : w2.cell? ⟨w.heap.size, 0, none⟩ = some (.bool false) := d0.cell 0
    have z1 : w2.cell? ⟨w.heap.size, 1, none⟩ = some (.bool false) := d0.cell 1
    have z2 : w2.cell? ⟨w.heap.size, 2, none⟩ = some (.bool false) := d0.cell 2
    have z3 : w2.cell? ⟨w.heap.size, 3, none⟩ = some (.bool false) := d0.cell 3
    have z4 : w2.cell? ⟨w.heap.size, 4, none⟩ = some (.bool false) := d0.cell 4
    have z5 : w2.cell? ⟨w.heap.size, 5, none⟩ = some (.bool false) := d0.cell 5
    have y0 : w2.frozen? ⟨w.heap.size, 0, none⟩ = false := d0.frozen 0
    have y1 : w2.frozen? ⟨w.heap.size, 1, none⟩ = false := d0.frozen 1
    have y2 : w2.frozen? ⟨w.heap.size, 2, none⟩ = false := d0.frozen 2
    have y3 : w2.frozen? ⟨w.heap.size, 3, none⟩ = false := d0.frozen 3
    have y4 : w2.frozen? ⟨w.heap.size, 4, none⟩ = false := d0.frozen 4
    have y5 : w2.frozen? ⟨w.heap.size, 5, none⟩ = false := d0.frozen 5
    have HD0 := Aside0.mk d0
    have HK2 := Aside0.mk hK2
    clear c0 c1 c2 hb2 d1 d2 d0 hK hK2
    cases ok
    · go_wp2
      refine read_end w _ D false false false false false false 0 110 _ _ _ _ _ _ _ _ _ _ _ _ _ _ _ _ _ _ _ _ ?_ ?_ (by omega) ?_ _ ?_
      · exact six_set HD0.out _ _ _ _ _ _
      · exact (six_keeps _ _ _ _ _ _ _ _).same D _ HK2.out rfl
      · exact six_below hB2 (Nat.le_refl _) _ _ _ _ _ _
      · simp [fls]
    · go_wp2
      go_region
      go_wp2
      refine read_end w _ D x0 x1 x2 x3 x4 x5 ys.length 0 _ _ _ _ _ _ _ _ _ _ _ _ _ _ _ _ _ _ _ _ ?_ ?_ (by omega) ?_ _ ?_
      · exact (six_set HD0.out _ _ _ _ _ _).drew
      · exact heap_drew ((six_keeps _ _ _ _ _ _ _ _).same D _ HK2.out rfl)
      · exact (six_below hB2 (Nat.le_refl _) _ _ _ _ _ _).drew
      · rw [HYS.out, HFL.out]
  case stop =>
    rintro D cc pre W hD hpre h _
    exact h.elim
/-- The flags of the words that a list begins with, how many words they are, whether they exclude each other. -/
def flags_Read.f (l0 : List ByteArray) : Option (Bool × Bool × Bool × Bool × Bool × Bool × Int × Int) :=
  if l0.length ≤ 1000 ∧ ∀ s ∈ l0, s.size ≤ 1000 then (flags_Right.f (decide ((0 : Fin 6) ∈ knw l0)) (decide ((1 : Fin 6) ∈ knw l0)) (decide ((2 : Fin 6) ∈ knw l0)) (decide ((3 : Fin 6) ∈ knw l0)) (decide ((4 : Fin 6) ∈ knw l0)) (decide ((5 : Fin 6) ∈ knw l0))).map fun ok => if ok = true then ((decide ((0 : Fin 6) ∈ knw l0)), (decide ((1 : Fin 6) ∈ knw l0)), (decide ((2 : Fin 6) ∈ knw l0)), (decide ((3 : Fin 6) ∈ knw l0)), (decide ((4 : Fin 6) ∈ knw l0)), (decide ((5 : Fin 6) ∈ knw l0)), ((knw l0).length : Int), 0) else (false, false, false, false, false, false, 0, 110) else none
theorem flags_Read.calls (A0 : Option Addr) (c0 : Nat) (l0 : List ByteArray) (r1 r2 r3 r4 r5 r6 : Bool) (r7 r8 : Int) (w : World) (hr0 : Kd.C Kd.string w A0 l0.length l0) (_hc0 : l0.length ≤ c0) (h : flags_Read.f l0 = some (r1, r2, r3, r4, r5, r6, r7, r8)) :
    Calls Try.prog 14 #[.slice A0 l0.length c0] w fun e w' => e = .returned (.tuple #[.agg #[.bool r1, .bool r2, .bool r3, .bool r4, .bool r5, .bool r6], .int .i64 r7, .int .i64 r8]) ∧ Below w.heap.size w w' := by
  unfold flags_Read.f at h
  by_cases hc : l0.length ≤ 1000 ∧ ∀ s ∈ l0, s.size ≤ 1000
  · rw [if_pos hc] at h
    obtain ⟨ok, hok, h⟩ := Option.map_eq_some_iff.mp h
    refine (read_calls l0 hc.2 A0 c0 w hr0 hc.1 ok hok).mono ?_
    rintro e w' ⟨rfl, hb⟩
    refine ⟨?_, hb⟩
    cases ok
    · rw [if_neg (by simp)] at h ⊢
      simp only [Prod.mk.injEq] at h
      obtain ⟨rfl, rfl, rfl, rfl, rfl, rfl, rfl, rfl⟩ := h
      simp [fls]
    · rw [if_pos rfl] at h ⊢
      simp only [Prod.mk.injEq] at h
      obtain ⟨rfl, rfl, rfl, rfl, rfl, rfl, rfl, rfl⟩ := h
      rfl
  · rw [if_neg hc] at h
    cases h
end Go.Proofs.Ytndjbhibajjaoaa.P
