/- What the two tests of a path tell: an entry's, a place's. Conditions: each theorem names its own. -/
import Derived.Test.YtnlbdmiflihghaaSKR
import Derived.Test.YtnlbdmiflihghaaPureOrd
namespace Go.Proofs.Ytnlbdmiflihghaa.P
open Go.RowKit Go.Shelf Go.Proofs.YtnlbdmiflihghaaW.PrintWords Go.Proofs.YtnlbdmiflihghaaW.PrintLast Go.Proofs.YtnlbdmiflihghaaW.PrintMore Go.Proofs.Ytnlbdmiflihghaa.SK
attribute [local go_sem] Oper.semAt_some

theorem until1_calls (B x : Nat) (k q : Nat) (W : World) (hB : W.cell? ⟨B, 0, none⟩ = some (.int .i64 (k : Int))) :
    Calls Try.prog 46 #[.pointer (some ⟨x, 0, none⟩), .int .i64 (q : Int), .pointer (some ⟨B, 0, none⟩)] W fun e W' => e = .returned (.bool (decide (q ≤ k))) ∧ Below W.heap.size W W' := by
  go_enter Try.func46, Try.ntmps46
  go_wp2
  go_ret
  refine ⟨?_, Below.refl _ _⟩
  congr 2
set_option maxHeartbeats 8000000 in
set_option maxRecDepth 100000 in
theorem to1_calls (e xe : En) (B x : Nat) (q : Nat) (W : World) (h0 : W.cell? ⟨x, 0, none⟩ = some (.string xe.1)) (h1 : W.cell? ⟨x, 1, none⟩ = some (.int .i64 xe.2)) (hB0 : W.cell? ⟨B, 0, none⟩ = some (.string e.1)) (hB1 : W.cell? ⟨B, 1, none⟩ = some (.int .i64 e.2)) :
    Calls Try.prog 43 #[.pointer (some ⟨x, 0, none⟩), .int .i64 (q : Int), .pointer (some ⟨B, 0, none⟩)] W fun r W' => r = .returned (.bool (ltE xe e)) ∧ Below W.heap.size W W' := by
  have hc := bound_Less.calls 5 xe.1 xe.2 e.1 e.2 _ W.drew (ahead_own _ _ _ _ _ (by omega))
  go_enter Try.func43, Try.ntmps43
  go_upto_region 1 with fail
  go_still_tail 5, (by kernel_rfl)
  change wpList _ _ _ _ _ W.drew
  go_wp2_with fail
  refine hc.mono ?_
  rintro r w1 ⟨rfl, hb⟩
  go_wp2
  go_ret
  exact ⟨rfl, (Below.refl _ _).drew.trans hb⟩
end Go.Proofs.Ytnlbdmiflihghaa.P
