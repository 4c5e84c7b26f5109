/- slices.Backward over a row of nodes: how a loop goes over it. Conditions: each theorem names its own. -/
import Derived.Test.YtnlbdmiflihghaaSK1
import Derived.RangeFuncBound
import Derived.RangeFuncCalls
import Derived.RangeFuncLeaves
import Derived.Shelf.Abstract
import Derived.Shelf.RegionOpen
import Derived.OwnWalkIn
import Derived.TacticsInMore
import Derived.LoopNIn
import Derived.LoopIn
import Derived.WalkMore
import Derived.Deep.LoopGhost
import Derived.Deep.RegionHeld3
import Derived.Deep.DeepCutAuto
import Derived.StillTailTactics
import Derived.Deep.QuietTactic
import Derived.BigQuiet
import Derived.Laws.EntriesVeiled
namespace Go.Proofs.Ytnlbdmiflihghaa.P
open Go.RowKit Go.Shelf Go.Proofs.YtnlbdmiflihghaaW.PrintWords Go.Proofs.YtnlbdmiflihghaaW.PrintLast Go.Proofs.YtnlbdmiflihghaaW.PrintMore Go.Proofs.Ytnlbdmiflihghaa.SK
attribute [local go_sem] Oper.semAt_some

theorem calls_of_wp_marks {P : Program} {f : FuncId} {fn : Func} {c : Code} {args : Array Value} {w : World} {R : Ending → World → Prop} (n : Nat)
    (hf : P.funcs[f]? = some fn) (hb : fn.body = some c) (h : c.wp P (bodyPostM Fence.wide n P fn R) { tmps := args ++ Array.replicate (fn.ntmps - args.size) undef, defers := [] } w) : Calls P f args w R :=
  callsIn_wide.1 (callsIn_of_wp_marks hf hb trivial (wpIn_wide.2 h) rfl)
theorem bcell {W w1 : World} (hb : Below W.heap.size W w1) : (∀ b o, b < W.heap.size → w1.cell? ⟨b, o, none⟩ = W.cell? ⟨b, o, none⟩) ∧ (∀ b o, b < W.heap.size → w1.frozen? ⟨b, o, none⟩ = W.frozen? ⟨b, o, none⟩) :=
  ⟨fun b o h => hb.cell (p := ⟨b, o, none⟩) h, fun b o h => hb.frozen (p := ⟨b, o, none⟩) h⟩
theorem backward_calls (A : Option Addr) (n c : Nat) (w : World) : Calls Try.prog 48 #[.slice A n c] w fun e w' => e = .returned (.func (.func 53) #[] #[.pointer (some ⟨w.heap.size, 0, none⟩)]) ∧ w' = w.alloc (.cells #[.slice A n c] 89) := by
  go_enter Try.func48, Try.ntmps48
  go_wp2
  go_ret
  exact ⟨rfl, rfl⟩
/-- A place below H, and what is told of it. -/
abbrev Pl (H : Nat) := { i : Nat // i < H } × Value
def plenc {H : Nat} (x : Pl H) : Array Value := #[.int .i64 (x.1.val : Int), x.2]
/-- From H - 1 down to m. -/
def dec (H m : Nat) : List Nat := (List.range' m (H - m)).reverse
theorem dec_top (H : Nat) : dec H H = [] := by simp [dec]
theorem dec_step {H m : Nat} (h : m + 1 ≤ H) : dec H m = dec H (m + 1) ++ [m] := by
  unfold dec
  rw [show H - m = (H - (m + 1)) + 1 by omega, List.range'_succ, List.reverse_cons]
/-- What a round keeps: the box of the row; that its cells hold something. -/
structure KeepsRow (Bs bn H : Nat) (A B : World) : Prop where
  box : B.cell? ⟨Bs, 0, none⟩ = A.cell? ⟨Bs, 0, none⟩
  row : ∀ j, j < H → (∃ v, A.cell? ⟨bn, j, none⟩ = some v) → ∃ v, B.cell? ⟨bn, j, none⟩ = some v
theorem KeepsRow.refl (Bs bn H : Nat) (A : World) : KeepsRow Bs bn H A A := ⟨rfl, fun _ _ h => h⟩
theorem KeepsRow.trans {Bs bn H : Nat} {A B C : World} (h : KeepsRow Bs bn H A B) (k : KeepsRow Bs bn H B C) : KeepsRow Bs bn H A C := ⟨k.box.trans h.box, fun j hj e => k.row j hj (h.row j hj e)⟩
theorem KeepsRow.below {Bs bn H : Nat} {A B : World} (hb : Below A.heap.size A B) (h1 : Bs < A.heap.size) (h2 : bn < A.heap.size) : KeepsRow Bs bn H A B :=
  ⟨hb.cell (p := ⟨Bs, 0, none⟩) h1, fun j _ ⟨v, hv⟩ => ⟨v, (hb.cell (p := ⟨bn, j, none⟩) h2).trans hv⟩⟩
set_option maxHeartbeats 8000000 in
set_option maxRecDepth 100000 in
theorem backward1 (H c : Nat) (hH : H ≤ 32) (Bs bn lp : Nat) (J Jx : List (Pl H) → World → Prop)
    (hY : ∀ pre x W, J pre W → pre.length < H → YieldAt Fence.wide 5 Try.prog lp (plenc x) W fun e W' =>
      (e = .returned (.bool true) ∧ J (pre ++ [x]) W' ∧ KeepsRow Bs bn H W W') ∨ (e = .returned (.bool false) ∧ Jx (pre ++ [x]) W'))
    (W : World) (hBs : W.cell? ⟨Bs, 0, none⟩ = some (.slice (some ⟨bn, 0, none⟩) H c)) (hrow : ∀ j, j < H → ∃ v, W.cell? ⟨bn, j, none⟩ = some v) (h0 : J [] W) :
    Calls Try.prog 53 #[.func (.yield lp) #[] #[], .pointer (some ⟨Bs, 0, none⟩)] W fun e W' => (∃ v, e = .returned v) ∧
      ((∃ ys, ys.map (fun x : Pl H => x.1.val) = dec H 0 ∧ J ys W') ∨ (∃ pre, True ∧ Jx pre W')) := by
  have HY := Aside0.mk hY
  have HR := Aside0.mk hrow
  have H0 := Aside0.mk h0
  clear hY hrow h0
  go_enter Try.func53, Try.ntmps53
  go_wp2
  go_loopg [3] H (fun gg v3 wr => ∃ (m : Nat) (pre : List (Pl H)), v3 = .int .i64 ((m : Int) - 1) ∧ m ≤ H ∧ m ≤ gg ∧ Aside0 (pre.map (fun x : Pl H => x.1.val) = dec H m) ∧ Aside0 (pre.length = H - m) ∧ Aside0 (J pre wr) ∧ Aside0 (KeepsRow Bs bn H W wr))
  case atStart => exact ⟨H, [], rfl, Nat.le_refl _, Nat.le_refl _, ⟨by rw [dec_top]; rfl⟩, ⟨by simp⟩, H0, ⟨KeepsRow.refl _ _ _ _⟩⟩
  case round =>
    obtain ⟨m, pre, rfl, hm, hg, HP, HL, HJ, HK⟩ := hrel
    cases m with
    | zero =>
      go_wp2
      go_end0
      exact ⟨⟨_, rfl⟩, .inl ⟨pre, HP.out, HJ.out⟩⟩
    | succ m =>
      have e1 : ((m + 1 : Nat) : Int) - 1 = (m : Int) := by omega
      rw [e1]
      clear e1
      obtain ⟨v, hv⟩ := HK.out.row m (by omega) (HR.out m (by omega))
      have hbox : wr.cell? ⟨Bs, 0, none⟩ = some (.slice (some ⟨bn, 0, none⟩) H c) := HK.out.box.trans hBs
      have hmz : (m : Int) < (H : Int) := by omega
      obtain ⟨fn, tmps, assign, body, hy, hR⟩ := HY.out pre (⟨m, by omega⟩, v) wr HJ.out (by have := HL.out; omega)
      simp only [plenc] at hy
      have HRo := Aside0.mk hR
      clear hR
      go_upto_region 3 with fail
      refine (wpIn_wide (n := 6)).1 ?_
      gi_wp2
      refine HRo.out.mono ?_
      rintro e W3 (⟨rfl, hJ3, hk3⟩ | ⟨rfl, hJx3⟩)
      · gi_wp2
        go_wp2
        go_roundg m
        case measure => omega
        case rel => exact ⟨m, pre ++ [(⟨m, by omega⟩, v)], by go_num, by omega, Nat.le_refl _, ⟨by rw [List.map_append, HP.out, dec_step (m := m) (by omega)]; rfl⟩, ⟨by rw [List.length_append, HL.out]; simp; omega⟩, ⟨hJ3⟩, ⟨HK.out.trans hk3⟩⟩
      · gi_wp2
        go_wp2
        refine bodyPost_ret (results_none rfl _ _ _) rfl ?_
        exact ⟨⟨_, rfl⟩, .inr ⟨pre ++ [(⟨m, by omega⟩, v)], trivial, hJx3⟩⟩
theorem backward_stops (H c : Nat) (hH : H ≤ 32) (Bs bn : Nat) (w : World) (hBl : Bs < w.heap.size) (hbl : bn < w.heap.size) (hBs : w.cell? ⟨Bs, 0, none⟩ = some (.slice (some ⟨bn, 0, none⟩) H c)) (hrow : ∀ j, j < H → ∃ v, w.cell? ⟨bn, j, none⟩ = some v) :
    SeqStopsK Fence.wide 6 Try.prog 53 #[.pointer (some ⟨Bs, 0, none⟩)] (plenc (H := H)) (KeepsRow Bs bn H) (fun ys => ys.map (fun x : Pl H => x.1.val) = dec H 0) (fun _ => True) H w := fun lp J Jx W hW _ _ hY h0 =>
  callsIn_wide.2 (backward1 H c hH Bs bn lp J Jx hY W ((hW.cell (p := ⟨Bs, 0, none⟩) hBl).trans hBs) (fun j hj => by
    obtain ⟨v, hv⟩ := hrow j hj
    exact ⟨v, (hW.cell (p := ⟨bn, j, none⟩) hbl).trans hv⟩) h0)
end Go.Proofs.Ytnlbdmiflihghaa.P
