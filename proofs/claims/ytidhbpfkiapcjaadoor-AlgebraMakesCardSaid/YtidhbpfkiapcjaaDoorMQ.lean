/- What the value of algebra.scores promises a loop over it. Blocks of one's own, and maps, as what a range over a function keeps. -/
import Derived.Test.YtidhbpfkiapcjaaDoorAI
import Derived.Test.YtidhbpfkiapcjaaDoorMA
/-! What the value of algebra.scores promises a loop over it. -/
section
namespace Go.Proofs.YtidhbpfkiapcjaaDoor.P
open Go.RowKit Go.Lib Go.Proofs.YtidhbpfkiapcjaaDoorW.PrintWords Go.Proofs.YtidhbpfkiapcjaaDoorW.PrintLast Go.Proofs.YtidhbpfkiapcjaaDoorW.PrintMore Go.Proofs.YtidhbpfkiapcjaaDoor.Pure
attribute [local go_sem] Oper.semAt_some

/-- The k-th of all entries (behind the end: an empty one). -/
def pairAt (l : List (List S36)) (k : Nat) : Nat × S36 := (pairs l).getD k (0, z36)
def encN (l : List (List S36)) (k : Nat) : Array Value := encP (pairAt l k)
theorem mem_pairsF : ∀ (l : List (List S36)) (i : Nat) (p : Nat × S36), p ∈ pairsF i l → ∃ x ∈ l, p.2 ∈ x
  | [], _, _, h => by cases h
  | x :: r, i, p, h => by
    rcases List.mem_append.1 h with h | h
    · obtain ⟨e, he, rfl⟩ := List.mem_map.1 h
      exact ⟨x, List.mem_cons_self, he⟩
    · obtain ⟨y, hy, he⟩ := mem_pairsF r (i + 1) p h
      exact ⟨y, List.mem_cons_of_mem _ hy, he⟩
theorem pairAt_good {l : List (List S36)} (hl : GoodL l) (k : Nat) : GoodE (pairAt l k).2 := by
  unfold pairAt
  rw [List.getD_eq_getElem?_getD]
  cases h : (pairs l)[k]? with
  | none => exact ⟨by show (0 : Nat) ≤ _; omega, rfl⟩
  | some p =>
    obtain ⟨x, hx, he⟩ := mem_pairsF l 0 p (List.mem_of_getElem? h)
    exact (hl.2 x hx).2 _ he
theorem scores_calls (A : Option Addr) (n c : Nat) (w : World) : Calls Tryd.prog 30 #[.slice A n c] w fun e w' => e = .returned (.func (.func 46) #[] #[.pointer (some ⟨w.heap.size, 0, none⟩)]) ∧ w' = w.alloc (.cells #[.slice A n c] 22) := by
  go_enter Tryd.func30, Tryd.ntmps30
  go_wp2
  go_ret
  exact ⟨rfl, rfl⟩
theorem at_pre {l : List (List S36)} {pre rest : List (Nat × S36)} {x : Nat × S36} (h : pre ++ x :: rest = pairs l) : pairAt l pre.length = x ∧ pre.length < (pairs l).length := by
  unfold pairAt
  rw [← h]
  constructor
  · rw [List.getD_eq_getElem?_getD, List.getElem?_append_right (Nat.le_refl _), Nat.sub_self]
    rfl
  · rw [List.length_append, List.length_cons]; omega
theorem scores_stops (l : List (List S36)) (hl : GoodL l) (A : Option Addr) (c : Nat) (w0 : World) (hC : Kd.C (Kd.slice 36 k36) w0 A l.length l) (Bs : Nat) (w : World) (hb : Below w0.heap.size w0 w) (hlt : Bs < w.heap.size) (hBs : w.cell? ⟨Bs, 0, none⟩ = some (.slice A l.length c)) :
    SeqStopsK Fence.wide 6 Tryd.prog 46 #[.pointer (some ⟨Bs, 0, none⟩)] (encN l) (Below w0.heap.size) (fun ys => ys = List.range (pairs l).length) (fun pre => pre <+: List.range (pairs l).length) (pairs l).length w := fun lp J Jx W hW hJ _ hY h0 => by
  refine callsIn_wide.2 ((scores1 l hl A c w0 hC Bs lp (fun s W => J (List.range s.length) W) (fun s W => Jx (List.range s.length) W)
    (fun s X Y hs hb => hJ _ X Y none hs ⟨hb.os, hb.tape, hb.output, hb.size, fun k hk _ => hb.block k hk⟩ (fun r e => by cases e)) ?_ W (hb.trans (hW.mono hb.size)) ((hW.cell (p := ⟨Bs, 0, none⟩) hlt).trans hBs) h0).mono ?_)
  · rintro pre x X hX ⟨rest, hr⟩
    obtain ⟨h1, h2⟩ := at_pre hr
    obtain ⟨fn, tmps, assign, body, y1, y2⟩ := hY (List.range pre.length) pre.length X hX (by rw [List.length_range]; exact h2)
    unfold encN at y1
    rw [h1] at y1
    refine ⟨fn, tmps, assign, body, y1, y2.mono fun e W' h => ?_⟩
    rw [List.length_append, List.length_singleton, List.range_succ]
    exact h
  · rintro e X ⟨hv, h | ⟨pre, hp, h⟩⟩
    · exact ⟨hv, .inl ⟨_, rfl, h⟩⟩
    · refine ⟨hv, .inr ⟨List.range pre.length, ?_, h⟩⟩
      obtain ⟨t, ht⟩ := hp
      rw [← ht, List.length_append, List.range_add]
      exact ⟨_, rfl⟩
end Go.Proofs.YtidhbpfkiapcjaaDoor.P
end
/-! Blocks of one's own, and maps, as what a range over a function keeps. -/
section
namespace Go.Proofs.YtidhbpfkiapcjaaDoor.P
open Go.RowKit Go.Lib Go.Proofs.YtidhbpfkiapcjaaDoorW.PrintWords Go.Proofs.YtidhbpfkiapcjaaDoorW.PrintLast Go.Proofs.YtidhbpfkiapcjaaDoorW.PrintMore Go.Proofs.YtidhbpfkiapcjaaDoor.Pure

/-- A block of cells that can be written. -/
def Blk (W : World) (B : Nat) (T : TypeId) (cs : Array Value) : Prop := W.heap[B]? = some (.cells cs T (0, 0))
theorem Blk.own {β : Type} (B : Nat) (T : TypeId) (f : β → Array Value) : Own (fun s W => Blk W B T (f s)) := by
  intro s X Y row hs hg hrow
  have hlt : B < X.heap.size := (Array.getElem?_eq_some_iff.1 hs).1
  refine (hg.block B hlt (fun e => ?_)).trans hs
  obtain ⟨o, ho, hc⟩ := hrow B e.symm
  rw [show X.heap[B]? = _ from hs] at ho
  cases ho
  cases hc
theorem Blk.below {W W' : World} {B : Nat} {T : TypeId} {cs : Array Value} (h : Blk W B T cs) (hb : Below W.heap.size W W') : Blk W' B T cs := (hb.block B (Array.getElem?_eq_some_iff.1 h).1).trans h
theorem Blk.lt {W : World} {B : Nat} {T : TypeId} {cs : Array Value} (h : Blk W B T cs) : B < W.heap.size := (Array.getElem?_eq_some_iff.1 h).1
theorem Blk.cell {W : World} {B : Nat} {T : TypeId} {cs : Array Value} (h : Blk W B T cs) (j : Nat) : W.cell? ⟨B, j, none⟩ = cs[j]? := by simp [World.cell?, show W.heap[B]? = _ from h]
theorem Blk.frozen {W : World} {B : Nat} {T : TypeId} {cs : Array Value} (h : Blk W B T cs) (j : Nat) : W.frozen? ⟨B, j, none⟩ = false := by simp [World.frozen?, show W.heap[B]? = _ from h]
theorem Blk.alloc {W : World} {B : Nat} {T : TypeId} {cs : Array Value} (h : Blk W B T cs) (o : Obj) : Blk (W.alloc o) B T cs := h.below ((Below.refl _ _).alloc (Nat.le_refl _) _)
theorem Blk.new (W : World) (T : TypeId) (cs : Array Value) : Blk (W.alloc (.cells cs T)) W.heap.size T cs := World.alloc_heap_new W _
theorem Blk.set {W : World} {B : Nat} {T : TypeId} {cs : Array Value} (h : Blk W B T cs) (j : Nat) (v : Value) : Blk (W.setCell ⟨B, j, none⟩ v) B T (cs.setIfInBounds j v) := by
  obtain ⟨hlt, hk⟩ := Array.getElem?_eq_some_iff.1 h
  show (W.heap.modify B _)[B]? = _
  rw [Array.getElem?_eq_getElem (by rw [Array.size_modify]; exact hlt), Array.getElem_modify_self, hk]
  rfl

theorem calls_of_wp_marks {P : Program} {f : FuncId} {fn : Func} {c : Code} {args : Array Value} {w : World} {R : Ending → World → Prop} (n : Nat)
    (hf : P.funcs[f]? = some fn) (hb : fn.body = some c) (h : c.wp P (bodyPostM Fence.wide n P fn R) { tmps := args ++ Array.replicate (fn.ntmps - args.size) undef, defers := [] } w) : Calls P f args w R :=
  callsIn_wide.1 (callsIn_of_wp_marks hf hb trivial (wpIn_wide.2 h) rfl)
theorem OwnsT.ownFrom {β : Type} {P : Program} {k e : TypeId} {B b : Nat} (hb : b < B) (f : β → List (ByteArray × Int)) : OwnFrom B (fun s W => OwnsT P k e W b (f s)) := fun _ _ _ _ hs hg hr => hs.kept hg (fun e => by have := (hr b e.symm).1; omega)
end Go.Proofs.YtidhbpfkiapcjaaDoor.P
end
