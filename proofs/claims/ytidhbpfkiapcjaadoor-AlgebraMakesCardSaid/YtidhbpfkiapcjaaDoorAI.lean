/- How the program goes through all entries of all sets (algebra.scores), whatever is done with each. -/
import Derived.Test.YtidhbpfkiapcjaaDoorMS
import Derived.RangeFuncNested
import Derived.RangeFuncBound
import Derived.RangeFuncCalls
import Derived.RangeFuncLeaves
import Derived.Shelf.Abstract
import Derived.Shelf.RegionOpen
import Derived.OwnWalkIn
import Derived.TacticsInMore
import Derived.LoopNIn
import Derived.LoopIn
import Derived.WalkMore
import Derived.Laws.EntriesVeiled
import Derived.Deep.LoopGhost
import Derived.StillTailTactics
import Derived.Deep.QuietTactic
namespace Go.Proofs.YtidhbpfkiapcjaaDoor.P
open Go.RowKit Go.Lib Go.Proofs.YtidhbpfkiapcjaaDoorW.PrintWords Go.Proofs.YtidhbpfkiapcjaaDoorW.PrintLast Go.Proofs.YtidhbpfkiapcjaaDoorW.PrintMore Go.Proofs.YtidhbpfkiapcjaaDoor.Pure
attribute [local go_sem] Oper.semAt_some

/-- All entries, set by set, with their sets' numbers. -/
def pairsF : Nat → List (List S36) → List (Nat × S36)
  | _, [] => []
  | i, x :: r => x.map (fun e => (i, e)) ++ pairsF (i + 1) r
def pairs (l : List (List S36)) : List (Nat × S36) := pairsF 0 l
/-- What a round is handed. -/
def encP (p : Nat × S36) : Array Value := #[.int .i64 p.1, .agg #[.string p.2.f0, .int .i64 p.2.f1]]
theorem pairs_step (l : List (List S36)) (j : Nat) (h : j < l.length) : pairsF j (l.drop j) = (l[j]).map (fun e => (j, e)) ++ pairsF (j + 1) (l.drop (j + 1)) := by
  rw [List.drop_eq_getElem_cons h]
  rfl
theorem map_step (x : List S36) (j k : Nat) (h : k < x.length) : (x.drop k).map (fun e => (j, e)) = (j, x[k]) :: (x.drop (k + 1)).map (fun e => (j, e)) := by
  rw [List.drop_eq_getElem_cons h]
  rfl
theorem rd36_get {l : List S36} {j : Nat} (h : j < l.length) : rd_T36 l (j : Int) = l[j] := by
  unfold rd_T36
  rw [Int.toNat_natCast, List.getD_eq_getElem?_getD, List.getElem?_eq_getElem h]
  rfl

set_option maxHeartbeats 8000000 in
set_option maxRecDepth 100000 in
theorem scores1 (l : List (List S36)) (hl : GoodL l) (A : Option Addr) (c : Nat) (w0 : World) (hC : Kd.C (Kd.slice 36 k36) w0 A l.length l) (Bs : Nat) (lp : Nat) (J Jx : List (Nat × S36) → World → Prop)
    (hJ : ∀ s W W', J s W → Below W.heap.size W W' → J s W')
    (hY : ∀ pre x W, J pre W → (∃ rest, pre ++ x :: rest = pairs l) → YieldAt Fence.wide 5 Tryd.prog lp (encP x) W fun e W' =>
      (e = .returned (.bool true) ∧ J (pre ++ [x]) W' ∧ Below w0.heap.size W W') ∨ (e = .returned (.bool false) ∧ Jx (pre ++ [x]) W'))
    (W : World) (hb : Below w0.heap.size w0 W) (hBs : W.cell? ⟨Bs, 0, none⟩ = some (.slice A l.length c)) (h0 : J [] W) :
    Calls Tryd.prog 46 #[.func (.yield lp) #[] #[], .pointer (some ⟨Bs, 0, none⟩)] W fun e W' => (∃ v, e = .returned v) ∧
      (J (pairs l) W' ∨ (∃ pre, pre <+: pairs l ∧ Jx pre W')) := by
  obtain ⟨hl, hgl⟩ := hl
  have HC := Aside0.mk hC
  have HJ := Aside0.mk hJ
  have HG := Aside0.mk hgl
  have HY := Aside0.mk hY
  have HB := Aside0.mk hb
  have H0 := Aside0.mk h0
  clear hC hJ hgl hY hb h0
  obtain ⟨n, hn⟩ : ∃ n, n = l.length := ⟨_, rfl⟩
  have HN := Aside0.mk hn
  rw [← hn] at hl hBs
  clear hn
  unfold maxLen at hl
  go_enter Tryd.func46, Tryd.ntmps46
  go_wp2_with fail
  go_loopg [9] n (fun gg v9 wr => ∃ (j : Nat) (pre : List (Nat × S36)), v9 = .int .i64 j ∧ j ≤ n ∧ n - j ≤ gg ∧ Aside0 (pre ++ pairsF j (l.drop j) = pairs l) ∧ Aside0 (J pre wr) ∧ Aside0 (Below w0.heap.size w0 wr))
  case atStart => exact ⟨0, [], rfl, Nat.zero_le _, by omega, ⟨rfl⟩, H0, HB⟩
  case round =>
    obtain ⟨j, pre, rfl, hj, hg, HP, HJp, HBw⟩ := hrel
    by_cases hlt : j < n
    · have hi1 : (j : Int) < (n : Int) := by omega
      have hil : j < l.length := by have := HN.out; omega
      have hcw0 := HC.out
      rw [← HN.out] at hcw0
      obtain ⟨ad, A0, c0, e, hx0, hc0, hCw⟩ := at_L3 hcw0 (j : Int) (by omega) hi1
      cases e
      rw [Int.toNat_natCast, rd3_get hil] at hx0
      rw [rd3_get hil] at hCw
      have hx := (HBw.out.cell (World.block_lt_of_cell? w0 _ hx0)).trans hx0
      have hGx := HG.out l[j] (List.getElem_mem hil)
      have HST := Aside0.mk (pairs_step l j hil)
      have HCX := Aside0.mk hCw
      clear hcw0 hx0 hc0 hCw
      generalize l[j] = x at hx hGx HST HCX
      obtain ⟨hxl, hxe⟩ := hGx
      have HXE := Aside0.mk hxe
      clear hxe
      obtain ⟨m, hm⟩ : ∃ m, m = x.length := ⟨_, rfl⟩
      have HM := Aside0.mk hm
      rw [← hm] at hx hxl
      clear hm
      unfold maxLen at hxl
      go_wp2_with fail
      go_loopg [16] m (fun gg v16 wr2 => ∃ (k : Nat) (pre2 : List (Nat × S36)), v16 = .int .i64 k ∧ k ≤ m ∧ m - k ≤ gg ∧ Aside0 (pre2 ++ ((x.drop k).map (fun e => (j, e)) ++ pairsF (j + 1) (l.drop (j + 1))) = pairs l) ∧ Aside0 (J pre2 wr2) ∧ Aside0 (Below w0.heap.size w0 wr2))
      case atStart => exact ⟨0, pre, rfl, Nat.zero_le _, by omega, ⟨by rw [List.drop_zero, ← HST.out]; exact HP.out⟩, HJp, HBw⟩
      case round =>
        obtain ⟨k, pre2, rfl, hk, hg2, HP2, HJ2, HB2⟩ := hrel
        by_cases hkm : k < m
        · have hk1 : (k : Int) < (m : Int) := by omega
          have hkl : k < x.length := by have := HM.out; omega
          have hcx := HCX.out
          rw [← HM.out] at hcx
          obtain ⟨ad2, e2, hy0, hy20⟩ := at_T36 hcx (k : Int) (by omega) hk1
          cases e2
          rw [Int.toNat_natCast, rd36_get hkl] at hy0 hy20
          have hy := (HB2.out.cell (World.block_lt_of_cell? w0 _ hy0)).trans hy0
          have hy2 := (HB2.out.cell (World.block_lt_of_cell? w0 _ hy20)).trans hy20
          have HMS := Aside0.mk (map_step x j k hkl)
          clear hcx hy0 hy20
          generalize x[k] = y at hy hy2 HMS
          go_upto_region 6 with fail
          have HPN : Aside0 ((pre2 ++ [(j, y)]) ++ ((x.drop (k + 1)).map (fun e => (j, e)) ++ pairsF (j + 1) (l.drop (j + 1))) = pairs l) := ⟨by rw [← HP2.out, HMS.out]; simp⟩
          have hJ6 := HJ.out _ _ _ HJ2.out (below_alloc (Below.refl _ wr) (.cells #[.string y.f0, .int .i64 y.f1] 36))
          have hB6 := HB2.out.trans ((below_alloc (Below.refl _ wr) (.cells #[.string y.f0, .int .i64 y.f1] 36)).mono HB2.out.size)
          have f0 : (wr.alloc (.cells #[.string y.f0, .int .i64 y.f1] 36)).cell? ⟨wr.heap.size, 0, none⟩ = some (.string y.f0) := by simp
          have f1 : (wr.alloc (.cells #[.string y.f0, .int .i64 y.f1] 36)).cell? ⟨wr.heap.size, 1, none⟩ = some (.int .i64 y.f1) := by simp
          generalize hW6 : World.alloc wr (Obj.cells #[Value.string y.f0, Value.int IntKind.i64 y.f1] 36) = W6 at hJ6 hB6 f0 f1 ⊢
          clear hW6
          obtain ⟨fn, tmps, assign, body, hyy, hR⟩ := HY.out pre2 (j, y) W6 hJ6 ⟨_, by rw [← HPN.out, List.append_assoc]; rfl⟩
          simp only [encP] at hyy
          have HRo := Aside0.mk hR
          have HB6 := Aside0.mk hB6
          clear hR hJ6 hB6
          refine (wpIn_wide (n := 6)).1 ?_
          gi_wp2
          refine HRo.out.mono ?_
          rintro e W3 (⟨rfl, hJ3, hb3⟩ | ⟨rfl, hJx3⟩)
          · have HJ3 := Aside0.mk hJ3
            have HB3 := Aside0.mk (HB6.out.trans hb3)
            clear hJ3 hb3
            gi_wp2
            go_wp2
            go_roundg (m - (k + 1))
            case measure => omega
            case rel => exact ⟨k + 1, pre2 ++ [(j, y)], by go_num, by omega, by omega, HPN, HJ3, HB3⟩
          · have HJ3 := Aside0.mk hJx3
            clear hJx3
            gi_wp2
            go_wp2
            refine bodyPost_ret (results_none rfl _ _ _) rfl ?_
            exact ⟨⟨_, rfl⟩, .inr ⟨pre2 ++ [(j, y)], ⟨_, HPN.out⟩, HJ3.out⟩⟩
        · have hk1 : ¬ (k : Int) < (m : Int) := by omega
          have HPE : Aside0 (pre2 ++ pairsF (j + 1) (l.drop (j + 1)) = pairs l) := ⟨by have h := HP2.out; rw [show k = x.length by have := HM.out; omega, List.drop_length] at h; simpa using h⟩
          go_wp2_with fail
          go_roundg (n - (j + 1))
          case measure => omega
          case rel => exact ⟨j + 1, pre2, by go_num, by omega, by omega, HPE, HJ2, HB2⟩
    · have hi1 : ¬ (j : Int) < (n : Int) := by omega
      go_wp2_with fail
      go_end0
      have hp := HP.out
      rw [show j = l.length by have := HN.out; omega, List.drop_length] at hp
      exact ⟨⟨_, rfl⟩, .inl (by rw [← hp]; simpa [pairsF] using HJp.out)⟩
end Go.Proofs.YtidhbpfkiapcjaaDoor.P
