/- The path to a place: on each level the last node up to it, and how many places are up to that. Conditions: each theorem names its own. -/
import Derived.Test.YtnlbdmiflihghaaSKR
import Derived.Deep.MidRow
import Derived.Deep.RegionHeld
namespace Go.Proofs.Ytnlbdmiflihghaa.P
open Go.RowKit Go.Shelf Go.Proofs.YtnlbdmiflihghaaW.PrintWords Go.Proofs.YtnlbdmiflihghaaW.PrintLast Go.Proofs.YtnlbdmiflihghaaW.PrintMore Go.Proofs.Ytnlbdmiflihghaa.SK
attribute [local go_sem] Oper.semAt_some

/-- The node at a position; 0: the head. -/
def nd (b : Nat) (bs : List Nat) (p : Nat) : Nat := if p = 0 then b else bs.getD (p - 1) 0
/-- The levels of the nodes, in order. -/
def lvs (σ : St) (bs : List Nat) : List Nat := bs.map σ.lev
/-- A position's levels. -/
def lvl (σ : St) (bs : List Nat) (p : Nat) : Nat := if p = 0 then σ.H else (lvs σ bs).getD (p - 1) 0
structure Shape (b : Nat) (bs : List Nat) (σ : St) : Prop where
  len : σ.n = bs.length
  small : bs.length ≤ 1000
  nodup : bs.Nodup
  lv1 : ∀ c, c ∈ bs → 1 ≤ σ.lev c ∧ σ.lev c ≤ σ.H
  H32 : σ.H ≤ 32
  Hex : σ.H = 0 ∨ ∃ c, c ∈ bs ∧ σ.lev c = σ.H
  tw : ∀ p, p ≤ bs.length → ∀ i, i < lvl σ bs p → ∃ o s, Nx (lvs σ bs) i p o s ∧ σ.tow (nd b bs p) i = (o.map (nd b bs), s)
  tz : ∀ c, c ∈ bs → ∀ i, σ.lev c ≤ i → i < 32 → (σ.tow c i).1 = none
  bks : ∀ p, 1 ≤ p → p ≤ bs.length → σ.bk (nd b bs p) = if p = 1 then none else some (nd b bs (p - 1))
  lst : σ.last = if bs.length = 0 then none else some (nd b bs bs.length)
theorem nd_mem {b : Nat} {bs : List Nat} {p : Nat} (h : p ≤ bs.length) : nd b bs p ∈ b :: bs := by
  unfold nd
  by_cases h0 : p = 0
  · rw [if_pos h0]; exact List.mem_cons_self
  · rw [if_neg h0, List.getD_eq_getElem?_getD, List.getElem?_eq_getElem (by omega)]
    exact List.mem_cons_of_mem _ (List.getElem_mem (by omega))
theorem nd_mem' {b : Nat} {bs : List Nat} {p : Nat} (h1 : 1 ≤ p) (h : p ≤ bs.length) : nd b bs p ∈ bs := by
  unfold nd
  rw [if_neg (by omega), List.getD_eq_getElem?_getD, List.getElem?_eq_getElem (by omega)]
  exact List.getElem_mem (by omega)
theorem lvs_len (σ : St) (bs : List Nat) : (lvs σ bs).length = bs.length := List.length_map _
theorem lvl_nd {σ : St} {b : Nat} {bs : List Nat} {p : Nat} (h1 : 1 ≤ p) (h : p ≤ bs.length) : lvl σ bs p = σ.lev (nd b bs p) := by
  unfold lvl nd lvs
  rw [if_neg (by omega), if_neg (by omega)]
  simp only [List.getD_eq_getElem?_getD, List.getElem?_map, List.getElem?_eq_getElem (show p - 1 < bs.length by omega)]
  rfl
theorem V_lvl {σ : St} {bs : List Nat} {i p : Nat} : V (lvs σ bs) i p ↔ 1 ≤ p ∧ i < lvl σ bs p := by
  unfold V lvl
  constructor
  · rintro ⟨h1, h2⟩
    exact ⟨h1, by rw [if_neg (by omega)]; exact h2⟩
  · rintro ⟨h1, h2⟩
    rw [if_neg (by omega)] at h2
    exact ⟨h1, h2⟩
/-- What is told of the nodes ahead: those up to place k are. -/
def Tells (g : Nat) (lb : Array Value) (b : Nat) (bs : List Nat) (k : Nat) (w : World) : Prop :=
  ∀ q, 1 ≤ q → q ≤ bs.length → ∀ W, Below w.heap.size w W → Calls Try.prog g (#[ptr (some (nd b bs q)), .int .i64 (q : Int)] ++ lb) W fun e W' => e = .returned (.bool (decide (q ≤ k))) ∧ Below W.heap.size W W'
theorem cut_nodes (B H : Nat) (hH : H ≤ 32) (W : World) : (Instr.sliceAt 68 (.pointer (some ⟨B, 0, none⟩)) none (some (.int .i64 (H : Int))) none).run Try.prog W = .ok (.slice (some ⟨B, 0, none⟩) H 32) W := by
  have hl : Try.prog.arrayLen 68 = 32 := by kernel_rfl
  have := run_sliceAt_array_h (P := Try.prog) (w := W) (t := 68) (a := ⟨B, 0, none⟩) (by kernel_rfl) .i64 (H : Int) (by omega) (by rw [hl]; omega)
  have hsz : (sizeOf (Try.prog.elem 68)).run Try.prog W = .ok 1 W := by kernel_rfl
  rw [hl, hsz] at this
  refine this.trans ?_
  have h0 : (⟨B, 0, none⟩ : Addr).add 0 = ⟨B, 0, none⟩ := rfl
  simp [slicedAt, Result.andThen, h0]
theorem Bk.fill {W : World} {T : TypeId} {N : Nat} {v : Value} (cs : Array Value) (h : cs = Array.replicate N v) : Bk (W.alloc (.cells cs T)) W.heap.size T N (fun _ => v) := by
  subst h
  exact Bk.of _ (World.alloc_heap_new W _) (by simp) (fun j hj => by simp [hj])
theorem Bk.one {W : World} {T : TypeId} {v : Value} : Bk (W.alloc (.cells #[v] T)) W.heap.size T 1 (fun _ => v) := by
  refine Bk.of _ (World.alloc_heap_new W _) rfl (fun j hj => ?_)
  obtain rfl : j = 0 := by omega
  rfl
/-- The seven blocks that a path lays: what is ahead, the two answers, nodes, places, the node at hand, its place. -/
structure Seven (w : World) (g : Nat) (lb : Array Value) (fn : Nat → Value) (fp : Nat → Value) (x : Value) (p : Int) (W : World) : Prop where
  ah : Bk W w.heap.size 84 1 (fun _ => .func (.func g) #[] lb)
  r1 : Bk W (w.heap.size + 1) 68 32 (fun _ => .pointer none)
  r2 : Bk W (w.heap.size + 1 + 1) 69 32 (fun _ => .int .i64 0)
  ns : Bk W (w.heap.size + 1 + 1 + 1) 68 32 fn
  ps : Bk W (w.heap.size + 1 + 1 + 1 + 1) 69 32 fp
  x : Bk W (w.heap.size + 1 + 1 + 1 + 1 + 1) 56 1 (fun _ => x)
  p : Bk W (w.heap.size + 1 + 1 + 1 + 1 + 1 + 1) 3 1 (fun _ => .int .i64 p)
  bl : Below w.heap.size w W
section
variable {w : World} {g : Nat} {lb : Array Value} {fn fp : Nat → Value} {x : Value} {p : Int} {W W' : World}
theorem Seven.below (h : Seven w g lb fn fp x p W) (hb : Below W.heap.size W W') : Seven w g lb fn fp x p W' :=
  ⟨h.ah.below hb, h.r1.below hb, h.r2.below hb, h.ns.below hb, h.ps.below hb, h.x.below hb, h.p.below hb, h.bl.trans (hb.mono h.bl.size)⟩
theorem Seven.lt (h : Seven w g lb fn fp x p W) : w.heap.size + 6 < W.heap.size := by have := h.p.lt; omega
theorem Seven.setX (h : Seven w g lb fn fp x p W) (v : Value) : Seven w g lb fn fp v p (W.setCell ⟨w.heap.size + 1 + 1 + 1 + 1 + 1, 0, none⟩ v) :=
  ⟨h.ah.far (by omega) _ _, h.r1.far (by omega) _ _, h.r2.far (by omega) _ _, h.ns.far (by omega) _ _, h.ps.far (by omega) _ _, (h.x.set 0 v).ext (fun j hj => by rw [if_pos (by omega)]), h.p.far (by omega) _ _, h.bl.setCell (by simp; omega) _⟩
theorem Seven.setP (h : Seven w g lb fn fp x p W) (q : Int) : Seven w g lb fn fp x q (W.setCell ⟨w.heap.size + 1 + 1 + 1 + 1 + 1 + 1, 0, none⟩ (.int .i64 q)) :=
  ⟨h.ah.far (by omega) _ _, h.r1.far (by omega) _ _, h.r2.far (by omega) _ _, h.ns.far (by omega) _ _, h.ps.far (by omega) _ _, h.x.far (by omega) _ _, (h.p.set 0 _).ext (fun j hj => by rw [if_pos (by omega)]), h.bl.setCell (by simp; omega) _⟩
theorem Seven.setN (h : Seven w g lb fn fp x p W) (i : Nat) (v : Value) : Seven w g lb (fun j => if j = i then v else fn j) fp x p (W.setCell ⟨w.heap.size + 1 + 1 + 1, i, none⟩ v) :=
  ⟨h.ah.far (by omega) _ _, h.r1.far (by omega) _ _, h.r2.far (by omega) _ _, h.ns.set i v, h.ps.far (by omega) _ _, h.x.far (by omega) _ _, h.p.far (by omega) _ _, h.bl.setCell (by simp; omega) _⟩
theorem Seven.setS (h : Seven w g lb fn fp x p W) (i : Nat) (v : Value) : Seven w g lb fn (fun j => if j = i then v else fp j) x p (W.setCell ⟨w.heap.size + 1 + 1 + 1 + 1, i, none⟩ v) :=
  ⟨h.ah.far (by omega) _ _, h.r1.far (by omega) _ _, h.r2.far (by omega) _ _, h.ns.far (by omega) _ _, h.ps.set i v, h.x.far (by omega) _ _, h.p.far (by omega) _ _, h.bl.setCell (by simp; omega) _⟩
end
theorem seven_new (w : World) (g : Nat) (lb : Array Value) (x : Value) (N0 P0 : Array Value) (W : World)
    (hW : ((((((w.alloc (.cells #[.func (.func g) #[] lb] 84)).alloc (.cells N0 68)).alloc (.cells P0 69)).alloc (.cells N0 68)).alloc (.cells P0 69)).alloc (.cells #[x] 56)).alloc (.cells #[.int .i64 0] 3) = W) (hN : N0 = Array.replicate 32 (.pointer none)) (hP : P0 = Array.replicate 32 (.int .i64 0)) :
    Seven w g lb (fun _ => .pointer none) (fun _ => .int .i64 0) x 0 W := by
  subst hW
  have a1 := Bk.one (W := w) (T := 84) (v := .func (.func g) #[] lb)
  have a2 := Bk.fill (W := w.alloc (.cells #[.func (.func g) #[] lb] 84)) (T := 68) N0 hN
  have a3 := Bk.fill (W := (w.alloc (.cells #[.func (.func g) #[] lb] 84)).alloc (.cells N0 68)) (T := 69) P0 hP
  have a4 := Bk.fill (W := ((w.alloc (.cells #[.func (.func g) #[] lb] 84)).alloc (.cells N0 68)).alloc (.cells P0 69)) (T := 68) N0 hN
  have a5 := Bk.fill (W := (((w.alloc (.cells #[.func (.func g) #[] lb] 84)).alloc (.cells N0 68)).alloc (.cells P0 69)).alloc (.cells N0 68)) (T := 69) P0 hP
  have a6 := Bk.one (W := ((((w.alloc (.cells #[.func (.func g) #[] lb] 84)).alloc (.cells N0 68)).alloc (.cells P0 69)).alloc (.cells N0 68)).alloc (.cells P0 69)) (T := 56) (v := x)
  have a7 := Bk.one (W := (((((w.alloc (.cells #[.func (.func g) #[] lb] 84)).alloc (.cells N0 68)).alloc (.cells P0 69)).alloc (.cells N0 68)).alloc (.cells P0 69)).alloc (.cells #[x] 56)) (T := 3) (v := .int .i64 0)
  simp only [World.size_alloc] at a2 a3 a4 a5 a6 a7
  exact ⟨(((((a1.alloc _).alloc _).alloc _).alloc _).alloc _).alloc _, ((((a2.alloc _).alloc _).alloc _).alloc _).alloc _, (((a3.alloc _).alloc _).alloc _).alloc _, ((a4.alloc _).alloc _).alloc _, (a5.alloc _).alloc _, a6.alloc _, a7, below_alloc (below_alloc (below_alloc (below_alloc (below_alloc (below_alloc (below_alloc (Below.refl _ _) _) _) _) _) _) _) _⟩
theorem Bk.own {X Y : World} {row : Option Nat} {B : Nat} {T : TypeId} {N : Nat} {f : Nat → Value} (h : Bk X B T N f) (hg : X.grownBy Y row) (hr : ∀ r, row = some r → ∃ o : Obj, X.heap[r]? = some o ∧ o.isCells = false) : Bk Y B T N f := by
  refine h.move (hg.block B h.lt (fun e => ?_))
  obtain ⟨o, ho, hc⟩ := hr B e.symm
  obtain ⟨cs, h1, _⟩ := h.ex
  rw [h1] at ho
  cases ho
  cases hc
theorem Seven.own {w : World} {g : Nat} {lb : Array Value} {fn fp : Nat → Value} {x : Value} {p : Int} {X Y : World} {row : Option Nat} (h : Seven w g lb fn fp x p X) (hg : X.grownBy Y row) (hr : ∀ r, row = some r → w.heap.size ≤ r ∧ ∃ o : Obj, X.heap[r]? = some o ∧ o.isCells = false) : Seven w g lb fn fp x p Y :=
  have hr' := fun r e => (hr r e).2
  ⟨h.ah.own hg hr', h.r1.own hg hr', h.r2.own hg hr', h.ns.own hg hr', h.ps.own hg hr', h.x.own hg hr', h.p.own hg hr', h.bl.grown hg h.bl.size (fun k e => (hr k e).1)⟩
/-- The node at hand behind a level. -/
def stp (σ : St) (bs : List Nat) (k p i : Nat) : Nat := if i < lvl σ bs p then prevP (lvs σ bs) i k else p
def fstep (σ : St) (bs : List Nat) (k : Nat) (s : Nat × (Nat → Option Nat)) (i : Nat) : Nat × (Nat → Option Nat) := (stp σ bs k s.1 i, fun j => if j = i then some (stp σ bs k s.1 i) else s.2 j)
/-- .. and behind some levels; which nodes have been noted. -/
def fol (σ : St) (bs : List Nat) (k : Nat) (l : List Nat) : Nat × (Nat → Option Nat) := List.foldl (fstep σ bs k) (0, fun _ => none) l
theorem fol_snoc (σ : St) (bs : List Nat) (k : Nat) (l : List Nat) (i : Nat) : fol σ bs k (l ++ [i]) = fstep σ bs k (fol σ bs k l) i := by
  unfold fol
  rw [List.foldl_append]
  rfl
theorem stp_le {σ : St} {bs : List Nat} {k p i : Nat} (h : p ≤ k) : stp σ bs k p i ≤ k := by
  unfold stp
  split
  · exact (prevP_spec _ _ _).le
  · exact h
theorem foldl_le (σ : St) (bs : List Nat) (k : Nat) : ∀ (l : List Nat) (s : Nat × (Nat → Option Nat)), s.1 ≤ k → (List.foldl (fstep σ bs k) s l).1 ≤ k
  | [], _, h => h
  | a :: l, s, h => foldl_le σ bs k l (fstep σ bs k s a) (stp_le h)
theorem fol_le (σ : St) (bs : List Nat) (k : Nat) (l : List Nat) : (fol σ bs k l).1 ≤ k := foldl_le σ bs k l _ (Nat.zero_le _)
theorem cell_of_heap {A B : World} {a : Addr} (h : B.heap[a.block]? = A.heap[a.block]?) : B.cell? a = A.cell? a := by simp [World.cell?, h]
theorem KeepsRow.put {Bs bn H l : Nat} (W : World) (o : Obj) (h1 : Bs < l) (h2 : bn < l) : KeepsRow Bs bn H W (W.putObj l o) :=
  ⟨cell_of_heap (World.putObj_heap_other (by simp; omega)), fun j _ ⟨v, hv⟩ => ⟨v, (cell_of_heap (World.putObj_heap_other (by simp; omega))).trans hv⟩⟩
/-- What is noted of the nodes, of the places. -/
def nfn (b : Nat) (bs : List Nat) (A : Nat → Option Nat) (j : Nat) : Value := ptr ((A j).map (nd b bs))
def nfp (A : Nat → Option Nat) (j : Nat) : Value := .int .i64 (((A j).getD 0 : Nat) : Int)
def posOf (w wr : World) : Nat := match wr.cell? ⟨w.heap.size + 1 + 1 + 1 + 1 + 1 + 1, 0, none⟩ with
  | some (.int _ n) => n.toNat
  | _ => 0
/-- Between two levels. -/
structure PI (w : World) (g : Nat) (lb : Array Value) (b : Nat) (bs : List Nat) (σ : St) (k Bs H : Nat) (l : List Nat) (W : World) : Prop where
  sv : Seven w g lb (nfn b bs (fol σ bs k l).2) (nfp (fol σ bs k l).2) (ptr (some (nd b bs (fol σ bs k l).1))) (((fol σ bs k l).1 : Nat) : Int) W
  box : Bk W Bs 89 1 (fun _ => .slice (some ⟨w.heap.size + 1 + 1 + 1, 0, none⟩) H 32)
theorem Seven.drew {w : World} {g : Nat} {lb : Array Value} {fn fp : Nat → Value} {x : Value} {p : Int} {W : World} (h : Seven w g lb fn fp x p W) : Seven w g lb fn fp x p W.drew :=
  ⟨h.ah.drew, h.r1.drew, h.r2.drew, h.ns.drew, h.ps.drew, h.x.drew, h.p.drew, h.bl.drew⟩
theorem Seven.note {w : World} {g : Nat} {lb : Array Value} {b : Nat} {bs : List Nat} {A0 : Nat → Option Nat} {p' : Nat} {W : World} (h : Seven w g lb (nfn b bs A0) (nfp A0) (ptr (some (nd b bs p'))) (p' : Int) W) (i : Nat) :
    Seven w g lb (nfn b bs (fun j => if j = i then some p' else A0 j)) (nfp (fun j => if j = i then some p' else A0 j)) (ptr (some (nd b bs p'))) (p' : Int)
      (((W.setCell ⟨w.heap.size + 1 + 1 + 1, i, none⟩ (.pointer (some ⟨nd b bs p', 0, none⟩))).setCell ⟨w.heap.size + 1 + 1 + 1 + 1, i, none⟩ (.int .i64 (p' : Int))).drew) := by
  have h2 := ((h.setN i (.pointer (some ⟨nd b bs p', 0, none⟩))).setS i (.int .i64 (p' : Int))).drew
  have e1 : (fun j => if j = i then Value.pointer (some ⟨nd b bs p', 0, none⟩) else nfn b bs A0 j) = nfn b bs (fun j => if j = i then some p' else A0 j) := by
    funext j
    unfold nfn
    by_cases e : j = i
    · simp [e, ptr]
    · simp [e]
  have e2 : (fun j => if j = i then Value.int .i64 (p' : Int) else nfp A0 j) = nfp (fun j => if j = i then some p' else A0 j) := by
    funext j
    unfold nfp
    by_cases e : j = i
    · simp [e]
    · simp [e]
  rw [e1, e2] at h2
  exact h2
theorem path_end {w W W2 : World} {g : Nat} {lb : Array Value} {b : Nat} {bs : List Nat} {σ : St} {k Bs n0 i p0 p' : Nat} {A0 : Nat → Option Nat} {l0 : List Nat} {pre : List (Pl σ.H)} (hi : i < σ.H) (hH : σ.H ≤ 32) (xv : Value) (hl : pre.map (fun x : Pl σ.H => x.1.val) = l0) (hf : fol σ bs k l0 = (p0, A0)) (hst : stp σ bs k p0 i = p')
    (hP : PI w g lb b bs σ k Bs σ.H l0 W) (h7 : Seven w g lb (nfn b bs A0) (nfp A0) (ptr (some (nd b bs p'))) (p' : Int) W2) (hbx : Bk W2 Bs 89 1 (fun _ => .slice (some ⟨w.heap.size + 1 + 1 + 1, 0, none⟩) σ.H 32)) (hBs : w.heap.size + 6 < Bs) (hk : KeepsOthers W W2) {c : Nat} (hc : nd b bs p' = c) (W3 : World) (hW3 : W3 = (((W2.setCell ⟨w.heap.size + 1 + 1 + 1, i, none⟩ (.pointer (some ⟨c, 0, none⟩))).setCell ⟨w.heap.size + 1 + 1 + 1 + 1, i, none⟩ (.int .i64 (p' : Int))).drew)) :
    KeepsFrom n0 W W3 ∧ KeepsRow Bs (w.heap.size + 1 + 1 + 1) σ.H W W3 ∧ PI w g lb b bs σ k Bs σ.H ((pre ++ [((⟨i, hi⟩, xv) : Pl σ.H)]).map fun x : Pl σ.H => x.1.val) W3 := by
  subst hc
  subst hW3
  have hn := h7.note i
  have hb2 := ((hbx.far (B' := w.heap.size + 1 + 1 + 1) (by omega) i (.pointer (some ⟨nd b bs p', 0, none⟩))).far (B' := w.heap.size + 1 + 1 + 1 + 1) (by omega) i (.int .i64 (p' : Int))).drew
  refine ⟨((hk.trans ((KeepsOthers.setCell _ _ _).trans (KeepsOthers.setCell _ _ _))).trans (KeepsOthers.drew _)).from _, ⟨?_, fun j hj _ => ⟨_, hn.ns.cell (by omega)⟩⟩, ?_⟩
  · rw [hb2.cell (by omega), hP.box.cell (by omega)]
  · show PI _ _ _ _ _ _ _ _ _ (List.map _ (pre ++ [_])) _
    rw [List.map_append, hl]
    have e : fol σ bs k (l0 ++ [i]) = (p', fun j => if j = i then some p' else A0 j) := by
      rw [fol_snoc, hf]
      unfold fstep
      rw [hst]
    refine ⟨?_, hb2⟩
    show Seven w g lb (nfn b bs (fol σ bs k (l0 ++ [i])).2) (nfp (fol σ bs k (l0 ++ [i])).2) (ptr (some (nd b bs (fol σ bs k (l0 ++ [i])).1))) (((fol σ bs k (l0 ++ [i])).1 : Nat) : Int) _
    rw [e]
    exact hn
theorem path_go {w W W2 : World} {g : Nat} {lb : Array Value} {fn fp : Nat → Value} {x v : Value} {p : Int} {Bs H : Nat} (h7 : Seven w g lb fn fp x p W2) (hbx : Bk W2 Bs 89 1 (fun _ => .slice (some ⟨w.heap.size + 1 + 1 + 1, 0, none⟩) H 32)) (hBs : w.heap.size + 6 < Bs) (hk : KeepsOthers W W2) (q : Nat) (W3 : World)
    (hW3 : W3 = (((W2.setCell ⟨w.heap.size + 1 + 1 + 1 + 1 + 1, 0, none⟩ v).setCell ⟨w.heap.size + 1 + 1 + 1 + 1 + 1 + 1, 0, none⟩ (.int .i64 (q : Int))).drew)) :
    Seven w g lb fn fp v (q : Int) W3 ∧ Bk W3 Bs 89 1 (fun _ => .slice (some ⟨w.heap.size + 1 + 1 + 1, 0, none⟩) H 32) ∧ KeepsOthers W W3 := by
  subst hW3
  exact ⟨((h7.setX v).setP q).drew, ((hbx.far (by omega) _ _).far (by omega) _ _).drew, (hk.trans ((KeepsOthers.setCell _ _ _).trans (KeepsOthers.setCell _ _ _))).trans (KeepsOthers.drew _)⟩
theorem posOf_seven {w W : World} {g : Nat} {lb : Array Value} {fn fp : Nat → Value} {x : Value} {p : Nat} (h : Seven w g lb fn fp x (p : Int) W) : posOf w W = p := by
  unfold posOf
  rw [h.p.cell (by omega)]
  simp
/-- A row of 32 values. -/
def row32 (f : Nat → Value) : List Value := (List.range 32).map f
theorem row32_len (f : Nat → Value) : (row32 f).length = 32 := by simp [row32]
theorem row32_at {f : Nat → Value} {j : Nat} {v : Value} (h : (row32 f)[j]? = some v) : j < 32 ∧ v = f j := by
  unfold row32 at h
  rw [List.getElem?_map] at h
  by_cases hj : j < 32
  · rw [List.getElem?_range hj] at h
    exact ⟨hj, (Option.some.inj h).symm⟩
  · rw [List.getElem?_eq_none (by simp; omega)] at h
    cases h
theorem Bk.range {W : World} {B : Nat} {T : TypeId} {f : Nat → Value} (h : Bk W B T 32 f) : W.rangeAt B 0 (row32 f) := fun j v hv => by
  obtain ⟨hj, rfl⟩ := row32_at hv
  rw [Nat.zero_add]
  exact h.cell hj
theorem Bk.there {W : World} {B : Nat} {T : TypeId} {f : Nat → Value} (h : Bk W B T 32 f) : W.there B 0 32 := fun j hj => by
  rw [Nat.zero_add]
  exact ⟨by rw [h.cell hj]; rfl, h.frozen j⟩
theorem below_cells {B : Nat} {a : World} (b : Nat) (hb : B ≤ b) : ∀ (vs : List Value) (o : Nat) {w : World}, Below B a w → Below B a (w.setCells b o vs)
  | [], _, _, h => h
  | v :: r, o, _, h => below_cells b hb r (o + 1) (h.setCell (p := ⟨b, o, none⟩) hb v)
theorem cell_of_block {w w' : World} {a : Addr} (h : w'.heap[a.block]? = w.heap[a.block]?) : w'.cell? a = w.cell? a := by simp [World.cell?, h]
theorem load_range {W : World} {B : Nat} {f : Nat → Value} (h : W.rangeAt B 0 (row32 f)) : (loadCellsFrom ⟨B, 0, none⟩ 0 32 #[]).run Try.prog W = .ok (row32 f).toArray W := by
  have hc : ∀ j, j < 32 → W.cell? ((⟨B, 0, none⟩ : Addr).add (0 + j)) = some (f (0 + j)) := fun j hj => by
    rw [Addr.add_mid, Nat.zero_add, Nat.zero_add]
    have := h j (f j) (by unfold row32; rw [List.getElem?_map, List.getElem?_range hj]; rfl)
    rwa [Nat.zero_add] at this
  refine (run_loadCellsFrom (P := Try.prog) (w := W) ⟨B, 0, none⟩ f 32 0 #[] hc).trans ?_
  have e : (List.range 32).map (fun j => f (0 + j)) = row32 f := by
    unfold row32
    exact List.map_congr_left (fun j _ => by rw [Nat.zero_add])
  rw [e, Array.empty_append]
/-- The nodes, the places of a path, level by level. -/
def pathN (b : Nat) (bs : List Nat) (σ : St) (k j : Nat) : Value := ptr (if j < σ.H then some (nd b bs (prevP (lvs σ bs) j k)) else none)
def pathP (bs : List Nat) (σ : St) (k j : Nat) : Value := .int .i64 ((if j < σ.H then prevP (lvs σ bs) j k else 0 : Nat) : Int)
theorem fol_dec (σ : St) (bs : List Nat) (k : Nat) : ∀ d m : Nat, m + d = σ.H → (fol σ bs k (dec σ.H m)).1 = (if m < σ.H then prevP (lvs σ bs) m k else 0) ∧ ∀ j, (fol σ bs k (dec σ.H m)).2 j = if m ≤ j ∧ j < σ.H then some (prevP (lvs σ bs) j k) else none := by
  intro d
  induction d with
  | zero =>
    intro m hm
    obtain rfl : m = σ.H := by omega
    rw [dec_top]
    exact ⟨by rw [if_neg (by omega)]; rfl, fun j => by rw [if_neg (by omega)]; rfl⟩
  | succ d ih =>
    intro m hm
    obtain ⟨h1, h2⟩ := ih (m + 1) (by omega)
    have hst : stp σ bs k (fol σ bs k (dec σ.H (m + 1))).1 m = prevP (lvs σ bs) m k := by
      unfold stp
      rw [if_pos]
      rw [h1]
      by_cases h : m + 1 < σ.H
      · rw [if_pos h]
        rcases (prevP_spec (lvs σ bs) (m + 1) k).on with h3 | h3
        · rw [h3]
          show m < σ.H
          omega
        · have := (V_lvl.mp h3).2
          omega
      · rw [if_neg h]
        show m < σ.H
        omega
    rw [dec_step (by omega), fol_snoc]
    unfold fstep
    rw [hst]
    refine ⟨by rw [if_pos (by omega)], fun j => ?_⟩
    show (if j = m then some (prevP (lvs σ bs) m k) else (fol σ bs k (dec σ.H (m + 1))).2 j) = _
    rw [h2 j]
    by_cases h : j = m
    · rw [if_pos h, if_pos (by omega), h]
    · rw [if_neg h]
      by_cases h' : m + 1 ≤ j ∧ j < σ.H
      · rw [if_pos h', if_pos (by omega)]
      · rw [if_neg h', if_neg (by omega)]
theorem fol_nfn (b : Nat) (σ : St) (bs : List Nat) (k : Nat) : nfn b bs (fol σ bs k (dec σ.H 0)).2 = pathN b bs σ k := by
  funext j
  unfold nfn pathN
  rw [(fol_dec σ bs k σ.H 0 (by omega)).2 j]
  by_cases h : j < σ.H
  · rw [if_pos (by omega), if_pos h]; rfl
  · rw [if_neg (by omega), if_neg h]; rfl
theorem fol_nfp (σ : St) (bs : List Nat) (k : Nat) : nfp (fol σ bs k (dec σ.H 0)).2 = pathP bs σ k := by
  funext j
  unfold nfp pathP
  rw [(fol_dec σ bs k σ.H 0 (by omega)).2 j]
  by_cases h : j < σ.H
  · rw [if_pos (by omega), if_pos h]; rfl
  · rw [if_neg (by omega), if_neg h]; rfl
theorem one_pathN {b : Nat} {bs : List Nat} {σ : St} {k : Nat} : ∀ v ∈ row32 (pathN b bs σ k), v.oneCell' = true := by
  intro v hv
  obtain ⟨j, _, rfl⟩ := List.mem_map.mp hv
  unfold pathN
  split <;> rfl
theorem one_pathP {bs : List Nat} {σ : St} {k : Nat} : ∀ v ∈ row32 (pathP bs σ k), v.oneCell' = true := by
  intro v hv
  obtain ⟨j, _, rfl⟩ := List.mem_map.mp hv
  rfl
theorem size68 : (Try.prog.info? 68).map (·.size) = some 32 := by kernel_rfl
theorem size69 : (Try.prog.info? 69).map (·.size) = some 32 := by kernel_rfl
/-- What a node's link tells of the path. -/
theorem path_case {b : Nat} {bs : List Nat} {σ : St} (hX : Shape b bs σ) {k i p0 p' : Nat} (hk : k ≤ bs.length) (hi : i < σ.H) (h0 : p0 ≤ k) (hp : p' ≤ k) (hon : i < lvl σ bs p0 → p' = 0 ∨ V (lvs σ bs) i p') (hoff : ¬ i < lvl σ bs p0 → p' = p0) :
    ((σ.tow (nd b bs p') i).1 = none ∧ stp σ bs k p0 i = p') ∨ ∃ q s, 1 ≤ q ∧ q ≤ bs.length ∧ σ.tow (nd b bs p') i = (some (nd b bs q), s) ∧ (p' : Int) + s = q ∧ ((k < q ∧ stp σ bs k p0 i = p') ∨ (q ≤ k ∧ p' < q ∧ i < lvl σ bs p0 ∧ V (lvs σ bs) i q)) := by
  by_cases hl : i < lvl σ bs p0
  · have hon' := hon hl
    have hlv : i < lvl σ bs p' := by
      rcases hon' with h | h
      · rw [h]; exact hi
      · exact (V_lvl.mp h).2
    obtain ⟨o, s, hn, ht⟩ := hX.tw p' (by omega) i hlv
    have hst : stp σ bs k p0 i = prevP (lvs σ bs) i k := if_pos hl
    rcases step_path (by rw [lvs_len]; exact hk) hp hon' hn with ⟨q, rfl, h1, h2, h3, h4⟩ | ⟨h1, h2⟩
    · exact .inr ⟨q, s, by omega, by omega, ht, h4, .inr ⟨h1, h2, hl, h3⟩⟩
    · cases o with
      | none => exact .inl ⟨by rw [ht]; rfl, by rw [hst, h2]⟩
      | some q =>
        obtain ⟨h3, h4⟩ := h1 q rfl
        have hq := V_le hn.2.1
        rw [lvs_len] at hq
        exact .inr ⟨q, s, by omega, hq, ht, h4, .inl ⟨h3, by rw [hst, h2]⟩⟩
  · have hpe := hoff hl
    subst hpe
    have hp1 : 1 ≤ p' := by
      rcases Nat.eq_zero_or_pos p' with h | h
      · subst h
        exact absurd hi hl
      · exact h
    have hm := nd_mem' (b := b) hp1 (by omega : p' ≤ bs.length)
    rw [lvl_nd (b := b) hp1 (by omega)] at hl
    have := hX.H32
    refine .inl ⟨hX.tz _ hm i (by omega) (by omega), if_neg ?_⟩
    rw [lvl_nd (b := b) hp1 (by omega)]
    exact hl
set_option maxHeartbeats 8000000 in
set_option maxRecDepth 100000 in
theorem path_calls (g : Nat) (lb : Array Value) (eg : ∀ args w, (callFunc g args).run Try.prog w = .ok (.enter g args) w) (b : Nat) (bs : List Nat) (σ : St) (k : Nat) (hk : k ≤ bs.length) (w : World) (hS : Sk w b bs σ) (hX : Shape b bs σ) (hT : Tells g lb b bs k w) :
    Calls Try.prog 42 #[.pointer (some ⟨b, 0, none⟩), .func (.func g) #[] lb] w fun e w' => e = .returned (.tuple #[.agg (row32 (pathN b bs σ k)).toArray, .agg (row32 (pathP bs σ k)).toArray]) ∧ Below w.heap.size w w' := by
  have HS := Aside0.mk hS
  have HX := Aside0.mk hX
  have HT := Aside0.mk hT
  have hH := hS.H_
  have hbl : b < w.heap.size := hS.head.lt
  have hH32 := hX.H32
  clear hS hX hT
  refine calls_of_wp_marks 8 Try.func42 rfl ?_
  simp only [Try.ntmps42, List.size_toArray, List.length_cons, List.length_nil, Nat.reduceAdd, Nat.reduceSub, Array.replicate_succ, Array.replicate_zero, List.push_toArray, List.append_toArray, List.nil_append, List.cons_append]
  go_upto_region 4 with fail
  generalize hW7 : World.alloc _ (.cells #[.int .i64 0] 3) = W7
  have h7 := seven_new w g lb (.pointer (some ⟨b, 0, none⟩)) _ _ W7 hW7 rfl rfl
  clear hW7
  have hS7 := HS.out.below (h7.bl)
  have hH7 := hS7.H_
  have H7 := Aside0.mk h7
  have HS7 := Aside0.mk hS7
  clear h7 hS7
  have hcut := cut_nodes (w.heap.size + 1 + 1 + 1) σ.H hH32
  go_wp2_with fail
  refine (backward_calls _ _ _ _).mono ?_
  rintro e w' ⟨rfl, rfl⟩
  go_wp2
  have hPI : PI w g lb b bs σ k W7.heap.size σ.H [] (W7.alloc (.cells #[.slice (some ⟨w.heap.size + 1 + 1 + 1, 0, none⟩) σ.H 32] 89)) := ⟨H7.out.below (below_alloc (Below.refl _ _) _), Bk.one⟩
  have hWl : w.heap.size + 6 < W7.heap.size := H7.out.lt
  have hsz : (W7.alloc (.cells #[.slice (some ⟨w.heap.size + 1 + 1 + 1, 0, none⟩) σ.H 32] 89)).heap.size = W7.heap.size + 1 := by simp
  generalize hW0 : World.alloc _ (.cells #[.slice (some ⟨w.heap.size + 1 + 1 + 1, 0, none⟩) σ.H 32] 89) = W0 at hPI hsz ⊢
  clear hW0
  refine (wpIn_wide (n := 7)).1 ?_
  refine wpIn_rangeFunc_ownG rfl (by omega) (gf := 53) (lb := #[.pointer (some ⟨W7.heap.size, 0, none⟩)]) rfl trivial (enters_of Try.func53 (by kernel_rfl) rfl)
    (backward_stops σ.H 32 hH32 W7.heap.size (w.heap.size + 1 + 1 + 1) W0 (by omega) (by omega) (hPI.box.cell (by omega)) (fun j hj => ⟨_, hPI.sv.ns.cell (by omega)⟩)) KeepsRow.trans (fun W l o o' hl _ _ _ => KeepsRow.put W o' (by omega) (by omega)) (Below.refl _ _) (fun _ => rfl)
    (fun pre W => PI w g lb b bs σ k W7.heap.size σ.H (pre.map fun x : Pl σ.H => x.1.val) W) (fun _ _ _ => False)
    (fun s X Y row hs hg hr => ⟨hs.sv.own hg (fun r e => ⟨by have := (hr r e).1; omega, (hr r e).2⟩), hs.box.own hg (fun r e => (hr r e).2)⟩)
    (fun _ _ _ _ _ hs _ _ => hs)
    hPI
    (fun x => { tmps := #[.pointer (some ⟨b, 0, none⟩), .func (.func g) #[] lb, undef, .pointer (some ⟨w.heap.size, 0, none⟩), .pointer (some ⟨w.heap.size + 1, 0, none⟩), .pointer (some ⟨w.heap.size + 1 + 1, 0, none⟩), .pointer (some ⟨w.heap.size + 1 + 1 + 1, 0, none⟩), .pointer (some ⟨w.heap.size + 1 + 1 + 1 + 1, 0, none⟩), .pointer (some ⟨w.heap.size + 1 + 1 + 1 + 1 + 1, 0, none⟩), .pointer (some ⟨w.heap.size + 1 + 1 + 1 + 1 + 1 + 1, 0, none⟩), .int .i64 (x.1.val : Int), undef, .pointer (some ⟨b, 0, none⟩), .pointer (some ⟨b, 0, none⟩), .pointer (some ⟨b, 0, none⟩), .pointer (some ⟨b, 0, none⟩), .pointer (some ⟨b, 0, none⟩), .pointer (some ⟨b, 69, none⟩), .int .i64 σ.H, .slice (some ⟨w.heap.size + 1 + 1 + 1, 0, none⟩) σ.H 32, .func (.func 53) #[] #[.pointer (some ⟨W7.heap.size, 0, none⟩)], .int .i64 (x.1.val : Int), x.2, undef, undef, undef, undef, undef, undef, undef, undef, undef, undef, undef, undef, undef, undef, undef, undef, undef, undef, undef, undef, undef, undef, undef, undef, undef, undef, undef, undef, undef, undef, undef, undef, undef, undef], defers := [] }) ?assign ?body ?done ?stop
  case assign =>
    intro lp x W K hK
    simp only [plenc] at hK ⊢
    gi_wp2
    exact hK
  case body =>
    rintro lp pre x W hPre hlt
    gi_wp2
    refine wpIn_scope_ ?_
    gi_wp2
    refine wpIn_label ?_
    gi_wp2
    obtain ⟨⟨i, hi⟩, xv⟩ := x
    have HP := Aside0.mk hPre
    clear hPre
    generalize hl0 : List.map (fun x : Pl σ.H => x.1.val) pre = l0 at HP
    have HL0 := Aside0.mk hl0
    clear hl0
    have hp0 := fol_le σ bs k l0
    generalize hfo : fol σ bs k l0 = s0 at hp0
    have HFO := Aside0.mk hfo
    clear hfo
    obtain ⟨p0, A0⟩ := s0
    gi_loopw [] (fun wr => ∃ p' : Nat, p' ≤ k ∧ Aside0 (i < lvl σ bs p0 → p' = 0 ∨ V (lvs σ bs) i p') ∧ Aside0 (¬ i < lvl σ bs p0 → p' = p0) ∧ Aside0 (Seven w g lb (nfn b bs A0) (nfp A0) (ptr (some (nd b bs p'))) (p' : Int) wr) ∧ Aside0 (Bk wr W7.heap.size 89 1 (fun _ => .slice (some ⟨w.heap.size + 1 + 1 + 1, 0, none⟩) σ.H 32)) ∧ Aside0 (KeepsOthers W wr)) (fun wr => k - posOf w wr)
    case atStart =>
      have h := HP.out.sv
      rw [HFO.out] at h
      refine ⟨p0, hp0, ⟨fun hl => ?_⟩, ⟨fun _ => rfl⟩, ⟨h⟩, ⟨HP.out.box⟩, ⟨KeepsOthers.refl _⟩⟩
      rcases Nat.eq_zero_or_pos p0 with h | h
      · exact .inl h
      · exact .inr (V_lvl.mpr ⟨h, hl⟩)
    case round =>
      obtain ⟨p', hp', HON, HOFF, H7r, HBX, HKO⟩ := hrel
      have hSr := HS.out.below H7r.out.bl
      have hmem : nd b bs p' ∈ b :: bs := nd_mem (by omega)
      have hto := hSr.to_ hmem (show i < 32 by omega)
      have hsp := hSr.span_ hmem (show i < 32 by omega)
      have hcase := path_case HX.out hk hi hp0 hp' HON.out HOFF.out
      have hx : wr.cell? ⟨w.heap.size + 1 + 1 + 1 + 1 + 1, 0, none⟩ = some (.pointer (some ⟨nd b bs p', 0, none⟩)) := H7r.out.x.cell (by omega)
      have hpp : wr.cell? ⟨w.heap.size + 1 + 1 + 1 + 1 + 1 + 1, 0, none⟩ = some (.int .i64 (p' : Int)) := H7r.out.p.cell (by omega)
      have hah : wr.cell? ⟨w.heap.size, 0, none⟩ = some (.func (.func g) #[] lb) := H7r.out.ah.cell (by omega)
      have hi32z : (i : Int) < 32 := by omega
      have hwr : w.heap.size + 6 < wr.heap.size := H7r.out.lt
      rcases hcase with ⟨ht, hst⟩ | ⟨q, s, hq1, hq2, ht, hqs, hend⟩
      · rw [ht] at hto
        replace hto : wr.cell? ⟨nd b bs p', 2 + i * 2, none⟩ = some (.pointer none) := hto
        have HST := Aside0.mk hst
        clear ht hst
        generalize hc : nd b bs p' = c at hto hsp hx
        generalize (σ.tow c i).2 = s0 at hsp
        gi_wp2
        refine ⟨fun _ h => (by cases h), ?_⟩
        gi_wp2
        have hb2 := below_alloc (Below.refl _ wr) (.cells #[.pointer none, .int .i64 s0] 58)
        have hk2 := HKO.out.trans (KeepsOthers.alloc wr (.cells #[.pointer none, .int .i64 s0] 58))
        generalize hW2 : World.alloc wr _ = W2 at hb2 hk2 ⊢
        clear hW2
        have h72 := H7r.out.below hb2
        have hbx2 := HBX.out.below hb2
        have hx2 : W2.cell? ⟨w.heap.size + 1 + 1 + 1 + 1 + 1, 0, none⟩ = some (.pointer (some ⟨nd b bs p', 0, none⟩)) := h72.x.cell (by omega)
        have hpp2 : W2.cell? ⟨w.heap.size + 1 + 1 + 1 + 1 + 1 + 1, 0, none⟩ = some (.int .i64 (p' : Int)) := h72.p.cell (by omega)
        have hn2 := h72.ns.cell (show i < 32 by omega)
        have hnf2 := h72.ns.frozen i
        have hp2 := h72.ps.cell (show i < 32 by omega)
        have hpf2 := h72.ps.frozen i
        have H72 := Aside0.mk h72
        have HBX2 := Aside0.mk hbx2
        have HK2 := Aside0.mk hk2
        rw [hc] at hx2
        clear h72 hbx2 hk2 hb2 hto hsp hx hpp hah
        gi_region
        all_goals
          have HFin := path_end (n0 := W0.heap.size) hi hH32 xv HL0.out HFO.out HST.out HP.out H72.out HBX2.out hWl HK2.out hc _ rfl
          generalize World.drew _ = W3 at HFin ⊢
          rw [Exit.noGoto_normal]
          gi_wp2
          exact HFin
      · rw [ht] at hto hsp
        replace hto : wr.cell? ⟨nd b bs p', 2 + i * 2, none⟩ = some (.pointer (some ⟨nd b bs q, 0, none⟩)) := hto
        replace hsp : wr.cell? ⟨nd b bs p', 2 + i * 2 + 1, none⟩ = some (.int .i64 s) := hsp
        have hwr0 : w.heap.size < wr.heap.size := by omega
        have hwr5 : w.heap.size + 1 + 1 + 1 + 1 + 1 < wr.heap.size := by omega
        have hwr6 : w.heap.size + 1 + 1 + 1 + 1 + 1 + 1 < wr.heap.size := by omega
        have hsm := HX.out.small
        have hs1 : -1000 ≤ s := by omega
        have hs2 : s ≤ 1000 := by omega
        have hp1 : (p' : Int) ≤ 1000 := by omega
        have hbW : Below w.heap.size w (wr.alloc (.cells #[.pointer (some ⟨nd b bs q, 0, none⟩), .int .i64 s] 58)) := below_alloc H7r.out.bl _
        have htell := HT.out q hq1 hq2 _ hbW
        have HQS := Aside0.mk hqs
        have hlb : (wr.alloc (.cells #[.pointer (some ⟨nd b bs q, 0, none⟩), .int .i64 s] 58)).heap.size = wr.heap.size + 1 := by simp
        clear ht hqs hbW
        rcases hend with ⟨hkq, hst⟩ | ⟨hqk, hpq, hl1, hV⟩
        · have HST := Aside0.mk hst
          rw [decide_eq_false (by omega : ¬ q ≤ k)] at htell
          have HTl := Aside0.mk htell
          clear hst htell hlb
          generalize hc : nd b bs p' = c at hto hsp hx
          generalize hcq : nd b bs q = cq at hto HTl
          gi_wp2_with fail
          refine ⟨trivial, ?_⟩
          rw [HQS.out]
          refine (CallsIn.inRound lp (callsIn_wide.2 HTl.out)).mono ?_
          rintro e W2 ⟨rfl, hb1⟩
          have hb2 : Below wr.heap.size wr W2 := (below_alloc (Below.refl _ wr) (.cells #[.pointer (some ⟨cq, 0, none⟩), .int .i64 s] 58)).trans (hb1.mono (by simp))
          have hkl : KeepsOthers wr W2 := ⟨hb2.size, fun kk o hk _ => (hb2.block kk (Array.getElem?_eq_some_iff.1 hk).1).trans hk⟩
          have hk2 := HKO.out.trans hkl
          have h72 := H7r.out.below hb2
          have hbx2 := HBX.out.below hb2
          have hx2 : W2.cell? ⟨w.heap.size + 1 + 1 + 1 + 1 + 1, 0, none⟩ = some (.pointer (some ⟨nd b bs p', 0, none⟩)) := h72.x.cell (by omega)
          have hpp2 : W2.cell? ⟨w.heap.size + 1 + 1 + 1 + 1 + 1 + 1, 0, none⟩ = some (.int .i64 (p' : Int)) := h72.p.cell (by omega)
          have hn2 := h72.ns.cell (show i < 32 by omega)
          have hnf2 := h72.ns.frozen i
          have hp2 := h72.ps.cell (show i < 32 by omega)
          have hpf2 := h72.ps.frozen i
          have H72 := Aside0.mk h72
          have HBX2 := Aside0.mk hbx2
          have HK2 := Aside0.mk hk2
          rw [hc] at hx2
          clear h72 hbx2 hk2 hb2 hkl hb1 hto hsp hx hpp hah
          gi_wp2
          gi_region
          all_goals
            have HFin := path_end (n0 := W0.heap.size) hi hH32 xv HL0.out HFO.out HST.out HP.out H72.out HBX2.out hWl HK2.out hc _ rfl
            generalize World.drew _ = W3 at HFin ⊢
            rw [Exit.noGoto_normal]
            gi_wp2
            exact HFin
        · rw [decide_eq_true hqk] at htell
          have HTl := Aside0.mk htell
          have HV := Aside0.mk hV
          have HPQ := Aside0.mk hpq
          have HL1 := Aside0.mk hl1
          have hqz : (q : Int) ≤ 1000 := by omega
          have hp'1 := hp1
          clear htell hlb hV hpq hl1
          generalize hc : nd b bs p' = c at hto hsp hx
          generalize hcq : nd b bs q = cq at hto HTl
          gi_wp2_with fail
          refine ⟨trivial, ?_⟩
          rw [HQS.out]
          refine (CallsIn.inRound lp (callsIn_wide.2 HTl.out)).mono ?_
          rintro e W2 ⟨rfl, hb1⟩
          have hl0 : W2.cell? ⟨wr.heap.size, 0, none⟩ = some (.pointer (some ⟨cq, 0, none⟩)) := (hb1.cell (p := ⟨wr.heap.size, 0, none⟩) (by simp)).trans (by simp)
          have hl1' : W2.cell? ⟨wr.heap.size, 1, none⟩ = some (.int .i64 s) := (hb1.cell (p := ⟨wr.heap.size, 1, none⟩) (by simp)).trans (by simp)
          have hb2 : Below wr.heap.size wr W2 := (below_alloc (Below.refl _ wr) (.cells #[.pointer (some ⟨cq, 0, none⟩), .int .i64 s] 58)).trans (hb1.mono (by simp))
          have hkl : KeepsOthers wr W2 := ⟨hb2.size, fun kk o hk _ => (hb2.block kk (Array.getElem?_eq_some_iff.1 hk).1).trans hk⟩
          have hk2 := HKO.out.trans hkl
          have h72 := H7r.out.below hb2
          have hbx2 := HBX.out.below hb2
          have hx2 : W2.cell? ⟨w.heap.size + 1 + 1 + 1 + 1 + 1, 0, none⟩ = some (.pointer (some ⟨nd b bs p', 0, none⟩)) := h72.x.cell (by omega)
          have hpp2 : W2.cell? ⟨w.heap.size + 1 + 1 + 1 + 1 + 1 + 1, 0, none⟩ = some (.int .i64 (p' : Int)) := h72.p.cell (by omega)
          have hxf2 := h72.x.frozen 0
          have hpf2 := h72.p.frozen 0
          have H72 := Aside0.mk h72
          have HBX2 := Aside0.mk hbx2
          have HK2 := Aside0.mk hk2
          rw [hc] at hx2
          have hne : wr.heap.size ≠ w.heap.size + 1 + 1 + 1 + 1 + 1 + 1 := by omega
          have hne2 : wr.heap.size ≠ w.heap.size + 1 + 1 + 1 + 1 + 1 := by omega
          have hwrap : IntKind.i64.wrap ((p' : Int) + s) = (q : Int) := by rw [HQS.out]; exact IntWalk.i64_in _ (by omega)
          clear h72 hbx2 hk2 hb2 hkl hb1 hto hsp hx hpp hah
          have HPO := Aside0.mk (posOf_seven H7r.out)
          gi_wp2
          gi_region
          all_goals
            have HFin := path_go (v := .pointer (some ⟨cq, 0, none⟩)) H72.out HBX2.out hWl HK2.out q _ rfl
            generalize World.drew _ = W3 at HFin ⊢
            have H73 := Aside0.mk HFin.1
            have HBX3 := Aside0.mk HFin.2.1
            have HK3 := Aside0.mk HFin.2.2
            clear HFin
            gi_wp2
            go_roundw
            case rel => exact ⟨q, hqk, ⟨fun _ => .inr HV.out⟩, ⟨fun h => absurd HL1.out h⟩, ⟨by rw [hcq]; exact H73.out⟩, HBX3, HK3⟩
            case measure =>
              rw [posOf_seven H73.out, HPO.out]
              have := HPQ.out
              omega
  case done =>
    rintro D ys W hD hys hPre hK
    rw [hys] at hPre
    have hsv := hPre.sv
    rw [fol_nfn, fol_nfp] at hsv
    have hDl : D < W.heap.size := (Array.getElem?_eq_some_iff.1 hK).1
    have hr1 := hsv.ns.range
    have hr2 := hsv.ps.range
    have ht1 := hsv.r1.there
    have ht2 := hsv.r2.there
    have hBl := Aside0.mk hsv.bl
    have HKD := Aside0.mk hK
    have hu68 := Try.underlying68
    have hu69 := Try.underlying69
    have o1 := one_pathN (b := b) (bs := bs) (σ := σ) (k := k)
    have o2 := one_pathP (bs := bs) (σ := σ) (k := k)
    have l1 := row32_len (pathN b bs σ k)
    have l2 := row32_len (pathP bs σ k)
    have ld1 : ∀ (W : World) (B : Nat), W.rangeAt B 0 (row32 (pathN b bs σ k)) → (loadCellsFrom ⟨B, 0, none⟩ 0 32 #[]).run Try.prog W = .ok (row32 (pathN b bs σ k)).toArray W := fun W B h => load_range h
    have ld2 : ∀ (W : World) (B : Nat), W.rangeAt B 0 (row32 (pathP bs σ k)) → (loadCellsFrom ⟨B, 0, none⟩ 0 32 #[]).run Try.prog W = .ok (row32 (pathP bs σ k)).toArray W := fun W B h => load_range h
    clear hPre hsv hK hys
    generalize hrN : row32 (pathN b bs σ k) = rN at hr1 o1 l1 ld1 ⊢
    generalize hrP : row32 (pathP bs σ k) = rP at hr2 o2 l2 ld2 ⊢
    have HRN := Aside0.mk hrN
    have HRP := Aside0.mk hrP
    clear hrN hrP
    have i1 : (Try.prog.info? 68).map (·.size) = some rN.length := by rw [size68, l1]
    have i2 : (Try.prog.info? 69).map (·.size) = some rP.length := by rw [size69, l2]
    have n1 : w.heap.size + 1 + 1 + 1 ≠ w.heap.size + 1 := by omega
    have n2 : w.heap.size + 1 + 1 + 1 ≠ w.heap.size + 1 + 1 := by omega
    have n3 : w.heap.size + 1 + 1 + 1 + 1 ≠ w.heap.size + 1 := by omega
    have n4 : w.heap.size + 1 + 1 + 1 + 1 ≠ w.heap.size + 1 + 1 := by omega
    have n5 : w.heap.size + 1 ≠ w.heap.size + 1 + 1 := by omega
    have n6 : w.heap.size ≤ w.heap.size + 1 := by omega
    have n7 : w.heap.size ≤ w.heap.size + 1 + 1 := by omega
    have n8 : w.heap.size + 1 < D := by omega
    have n9 : w.heap.size + 1 + 1 < D := by omega
    have n10 : w.heap.size ≤ D := by omega
    go_wp2
    generalize w.heap.size + 1 + 1 + 1 + 1 + 1 + 1 = b6
    generalize w.heap.size + 1 + 1 + 1 + 1 + 1 = b5
    generalize w.heap.size + 1 + 1 + 1 + 1 = b4 at n3 n4 hr2 ⊢
    generalize w.heap.size + 1 + 1 + 1 = b3 at n1 n2 hr1 ⊢
    generalize w.heap.size + 1 + 1 = b2 at n2 n4 n5 n7 n9 ht2 ⊢
    generalize w.heap.size + 1 = b1 at n1 n3 n5 n6 n8 ht1 ⊢
    refine wp_region_noPanic ?_
    refine wp_region_held_drew (S := fun w' => w'.rangeAt b3 0 rN ∧ w'.rangeAt b4 0 rP ∧ w'.there b1 0 32 ∧ w'.there b2 0 32) (by kernel_rfl) ⟨by simpa using hr1, by simpa using hr2, by simpa using ht1, by simpa using ht2⟩ (fun hHeld => ?_)
    refine wpAnyH_take (i := 0) (v := .agg rN.toArray) rfl (by kernel_rfl) (by kernel_rfl) (by kernel_rfl) (fun _ _ _ h => h) (yieldsIf_load_mid (by rfl) 68 (.tmp 6) rfl b3 0 rfl rN _ (fun w h => h.1) hu68 rfl i1) hHeld ?_
    simp only [Act.put, List.setIfInBounds_toArray]
    refine wpAnyH_take (i := 1) (v := .agg rP.toArray) rfl (by kernel_rfl) (by kernel_rfl) (by kernel_rfl) (fun _ _ _ h => h) (yieldsIf_load_mid (by rfl) 69 (.tmp 7) rfl b4 0 rfl rP _ (fun w h => h.2.1) hu69 rfl i2) hHeld ?_
    simp only [Act.put]
    refine wpAnyH_ready (rs := [2]) (by kernel_rfl) (by simp) ?_
    refine AllReadyH.cons (o := { dst := none, op := .store 68 (.tmp 4) (.tmp 55), type := 0, pos := "skip.go:64", after := #[{ on := 0, ground := .data }, { on := 0, ground := .phase }, { on := 1, ground := .textOnly .lateStores }], guard := none }) rfl (fun K hK => ?_) AllReadyH.nil
    rw [if_pos (by rfl)]
    refine wp_store_mid 68 _ _ rfl b1 0 rN.toArray rfl rfl ?_ ?_ (all_oneCell_toArray o1) ?_
    · rw [List.size_toArray, l1]; exact hHeld.2.2.1
    · rw [List.size_toArray]; exact i1
    refine hK.out _ _ ⟨World.rangeAt_setCells_apart hHeld.1 _ _ _ (.inl n1), World.rangeAt_setCells_apart hHeld.2.1 _ _ _ (.inl n3), World.there_setCells hHeld.2.2.1 _ _ _, World.there_setCells hHeld.2.2.2 _ _ _⟩ (fun hHeld2 => ?_)
    refine wpAnyH_ready (rs := [3]) (by kernel_rfl) (by simp) ?_
    refine AllReadyH.cons (o := { dst := none, op := .store 69 (.tmp 5) (.tmp 56), type := 0, pos := "skip.go:64", after := #[{ on := 1, ground := .data }, { on := 2, ground := .chain }, { on := 0, ground := .phase }, { on := 1, ground := .phase }, { on := 2, ground := .phase }], guard := none }) rfl (fun K' hK' => ?_) AllReadyH.nil
    rw [if_pos (by rfl)]
    refine wp_store_mid 69 _ _ rfl b2 0 rP.toArray rfl rfl ?_ ?_ (all_oneCell_toArray o2) ?_
    · rw [List.size_toArray, l2]; exact hHeld2.2.2.2
    · rw [List.size_toArray]; exact i2
    refine hK'.out _ _ ⟨World.rangeAt_setCells_apart hHeld2.1 _ _ _ (.inl n2), World.rangeAt_setCells_apart hHeld2.2.1 _ _ _ (.inl n4), World.there_setCells hHeld2.2.2.1 _ _ _, World.there_setCells hHeld2.2.2.2 _ _ _⟩ (fun hHeld3 => ?_)
    refine wpAnyH_done (by kernel_rfl) ?_ _
    refine NoPanic.normal ?_
    have q1 : (World.setCells (World.setCells (World.drew _) b1 0 rN) b2 0 rP).rangeAt b1 0 rN := World.rangeAt_setCells_apart (World.rangeAt_setCells_same _ _ _ _ (by rw [l1]; exact hHeld.2.2.1)) _ _ _ (.inl n5)
    have q2 : (World.setCells (World.setCells (World.drew _) b1 0 rN) b2 0 rP).rangeAt b2 0 rP := World.rangeAt_setCells_same _ _ _ _ (by rw [l2]; exact hHeld2.2.2.2)
    clear hHeld hHeld2 hHeld3 hK hK'
    go_wp2
    have hKD2 : ((W.drew.setCells b1 0 rN).setCells b2 0 rP).heap[D]? = W.heap[D]? := by
      rw [setCells_far _ _ _ (by omega), setCells_far _ _ _ (by omega)]
      rfl
    have hB2 : Below w.heap.size w ((W.drew.setCells b1 0 rN).setCells b2 0 rP) := below_cells b2 n7 _ _ (below_cells b1 n6 _ _ hBl.out.drew)
    generalize World.setCells _ b2 0 rP = W5 at q1 q2 hKD2 hB2 ⊢
    have hK5 := hKD2.trans HKD.out
    refine ⟨by simp, .inl ⟨_, _, rfl, run_takeDeferred hK5, ?_⟩⟩
    have q3 : (W5.putObj D (.deferred none)).rangeAt b1 0 rN := fun j v hv => (cell_of_block (a := ⟨b1, 0 + j, none⟩) (World.putObj_heap_other (by show b1 ≠ D; omega))).trans (q1 j v hv)
    have q4 : (W5.putObj D (.deferred none)).rangeAt b2 0 rP := fun j v hv => (cell_of_block (a := ⟨b2, 0 + j, none⟩) (World.putObj_heap_other (by show b2 ≠ D; omega))).trans (q2 j v hv)
    refine ⟨.tuple #[.agg rN.toArray, .agg rP.toArray], ?_, by rw [HRN.out, HRP.out], hB2.trans (belowK_b (w := w) (Nat.le_refl _) W5 D _ _ n10 hK5 rfl rfl)⟩
    have d1 := ld1 _ _ q3
    have d2 := ld2 _ _ q4
    rename_i _ dB eB _ dA eA
    obtain rfl : 55 = dA := Option.some.inj eA
    obtain rfl : 56 = dB := Option.some.inj eB
    exact results_cells (fn := Try.f42) (a := 4) (b := 5) (t := 68) (u := 69) (A := ⟨b1, 0, none⟩) (B := ⟨b2, 0, none⟩) rfl (by rfl) (by rfl) (loadVar68 d1) (loadVar69 d2)
  case stop =>
    rintro D cc pre W hD hpre h _
    exact h.elim
end Go.Proofs.Ytnlbdmiflihghaa.P
