/- errors.Is at the package's two errors; algebra.told: the number of what is wrong. -/
import Derived.Test.YtidhbpfkiapcjaaDoorBD
import Derived.Test.YtidhbpfkiapcjaaDoorMS
import Derived.WalkKit
import Derived.LaidEql
import Derived.Stop.Asserts
import Derived.RowKitTokens
namespace Go.Proofs.YtidhbpfkiapcjaaDoor.P
open Go.RowKit Go.Lib Go.Extern.Stop Go.Stop Go.Extern Go.Proofs.YtidhbpfkiapcjaaDoorW.PrintWords Go.Proofs.YtidhbpfkiapcjaaDoorW.PrintLast Go.Proofs.YtidhbpfkiapcjaaDoorW.PrintMore Go.Proofs.YtidhbpfkiapcjaaDoor.Pure

theorem isTypeOf (v : Value) (w : World) : (Extern.ReflectliteType.typeOf #[.iface 125 v]).run Tryd.prog w = .ok (.iface 92 (.agg #[.pointer (some ⟨2, 125, none⟩)])) w := by kernel_rfl
theorem isComparable (w : World) : (callFunc 101 #[.agg #[.pointer (some ⟨2, 125, none⟩)]]).run Tryd.prog w = .ok (.value (.bool true)) w := by kernel_rfl
theorem isMethodComparable (v : Value) (w : World) : (Go.method 262 92 v "Comparable").run Tryd.prog w = .ok (101, v) w := by kernel_rfl
theorem isComp : (Tryd.prog.info? 125).map (·.comparable) = some true := by kernel_rfl
theorem isSize : (Tryd.prog.info? 150).map (·.size) = some 1 := by kernel_rfl
theorem noIsE (v : Value) (xT : TypeId) (w : World) : (Instr.typeAssert (.iface 125 v) xT 94 true).run Tryd.prog w = .ok (.tuple #[.nilIface, .bool false]) w := run_typeAssert_lacksB Tryd.underlying94 (by kernel_rfl) (by kernel_rfl) v xT w
theorem noUnwrapE (v : Value) (xT : TypeId) (w : World) : (Instr.typeAssert (.iface 125 v) xT 97 true).run Tryd.prog w = .ok (.tuple #[.nilIface, .bool false]) w := run_typeAssert_lacksB Tryd.underlying97 (by kernel_rfl) (by kernel_rfl) v xT w
theorem noUnwrapsE (v : Value) (xT : TypeId) (w : World) : (Instr.typeAssert (.iface 125 v) xT 99 true).run Tryd.prog w = .ok (.tuple #[.nilIface, .bool false]) w := run_typeAssert_lacksB Tryd.underlying99 (by kernel_rfl) (by kernel_rfl) v xT w
/-- errors.Is(x, x). -/
theorem is_same (a : Addr) (w : World) :
    Calls Tryd.prog 42 #[.iface 125 (.pointer (some a)), .iface 125 (.pointer (some a))] w fun e w' => e = .returned (.bool true) ∧ w' = w := by
  obtain ⟨i, hi, hcmp⟩ := Option.map_eq_some_iff.1 isComp
  obtain ⟨j, hj, hjs⟩ := Option.map_eq_some_iff.1 isSize
  have h8 := @run_callFunc_extern Tryd.prog 55 _ Extern.ReflectliteType.typeOf Tryd.func55 (by kernel_rfl) (by kernel_rfl) (by kernel_rfl) (by kernel_rfl)
  have tT := isTypeOf
  have cT := isComparable
  have mR := isMethodComparable
  have heq := run_eql_iface_ptr_same (P := Tryd.prog) w a Tryd.underlying42 Tryd.underlying125 hi hcmp hj
  go_enter Tryd.func42, Tryd.ntmps42
  go_wp2
  refine wp_loop_rounds 1 ?_
  rw [rounds_succ]
  go_wp2
  go_ret
  exact ⟨rfl, rfl⟩
/-- errors.Is(x, y), two pointers. -/
theorem is_other (a b : Addr) (ca cb : Array Value) (ta tb : TypeId) (w : World) (hne : a ≠ b) (ha : w.heap[a.block]? = some (.cells ca ta (0, 0))) (hb : w.heap[b.block]? = some (.cells cb tb (0, 0))) :
    Calls Tryd.prog 42 #[.iface 125 (.pointer (some a)), .iface 125 (.pointer (some b))] w fun e w' => e = .returned (.bool false) ∧ w' = w := by
  obtain ⟨i, hi, hcmp⟩ := Option.map_eq_some_iff.1 isComp
  obtain ⟨j, hj, hjs⟩ := Option.map_eq_some_iff.1 isSize
  have h8 := @run_callFunc_extern Tryd.prog 55 _ Extern.ReflectliteType.typeOf Tryd.func55 (by kernel_rfl) (by kernel_rfl) (by kernel_rfl) (by kernel_rfl)
  have tT := isTypeOf
  have cT := isComparable
  have mR := isMethodComparable
  have nE := noIsE
  have uE := noUnwrapE
  have vE := noUnwrapsE
  have heq := run_eql_iface_ptr_other (P := Tryd.prog) w Tryd.underlying42 Tryd.underlying125 hi hcmp hj (by rw [hjs]; decide) hne ha hb
  go_enter Tryd.func42, Tryd.ntmps42
  go_wp2
  refine wp_loop_rounds 1 ?_
  rw [rounds_succ]
  go_wp2
  go_ret
  exact ⟨rfl, rfl⟩
/-- The two variables hold errors that lie at two places, which are there. -/
structure G2 (p q : Addr) (w : World) : Prop where
  g : G p q w
  hp : ∃ c t, w.heap[p.block]? = some (.cells c t (0, 0))
  hq : ∃ c t, w.heap[q.block]? = some (.cells c t (0, 0))
theorem G2.on {p q : Addr} {w w' : World} (h : G2 p q w) (hb : Below w.heap.size w w') : G2 p q w' where
  g := h.g.on hb
  hp := by obtain ⟨c, t, hc⟩ := h.hp; exact ⟨c, t, (hb.block _ (Array.getElem?_eq_some_iff.1 hc).1).trans hc⟩
  hq := by obtain ⟨c, t, hc⟩ := h.hq; exact ⟨c, t, (hb.block _ (Array.getElem?_eq_some_iff.1 hc).1).trans hc⟩
set_option maxRecDepth 100000 in
theorem told_calls (p q : Addr) (n : Int) (hn : n = 0 ∨ n = 11 ∨ n = 120) (w : World) (hg : G2 p q w) : Calls Tryd.prog 25 #[errOf p q n] w fun e w' => e = .returned (.int .i64 n) ∧ w' = w := by
  obtain ⟨cp, tp, hcp⟩ := hg.hp
  obtain ⟨cq, tq, hcq⟩ := hg.hq
  have s1 := is_same p w
  have s2 := is_same q w
  have s3 := is_nil p w
  have s4 := is_nil q w
  have s5 := is_other q p _ _ _ _ w (Ne.symm hg.g.ne) hcq hcp
  have hes : w.cell? ⟨0, 0, none⟩ = some (.iface 125 (.pointer (some p))) := hg.g.es
  have heo : w.cell? ⟨1, 0, none⟩ = some (.iface 125 (.pointer (some q))) := hg.g.eo
  clear hcp hcq hg
  rcases hn with rfl | rfl | rfl
  · rw [show errOf p q 0 = .nilIface from rfl]
    go_enter Tryd.func25, Tryd.ntmps25
    go_wp2_with fail
    refine s3.mono ?_
    rintro e w1 ⟨rfl, rfl⟩
    go_wp2_with fail
    refine s4.mono ?_
    rintro e w1 ⟨rfl, rfl⟩
    go_wp2_with fail
    go_ret
    exact ⟨rfl, rfl⟩
  · rw [show errOf p q 11 = .iface 125 (.pointer (some q)) from rfl]
    go_enter Tryd.func25, Tryd.ntmps25
    go_wp2_with fail
    refine s5.mono ?_
    rintro e w1 ⟨rfl, rfl⟩
    go_wp2_with fail
    refine s2.mono ?_
    rintro e w1 ⟨rfl, rfl⟩
    go_wp2_with fail
    go_ret
    exact ⟨rfl, rfl⟩
  · rw [show errOf p q 120 = .iface 125 (.pointer (some p)) from rfl]
    go_enter Tryd.func25, Tryd.ntmps25
    go_wp2_with fail
    refine s1.mono ?_
    rintro e w1 ⟨rfl, rfl⟩
    go_wp2_with fail
    go_ret
    exact ⟨rfl, rfl⟩
theorem madeF_err (l : List (List S36)) (ws : List Int) (agg least : Int) : (madeF l ws agg least).2 = 0 ∨ (madeF l ws agg least).2 = 11 ∨ (madeF l ws agg least).2 = 120 := by
  unfold madeF
  repeat' split
  · exact .inr (.inl rfl)
  · exact .inl rfl
  · exact .inr (.inr rfl)

set_option maxHeartbeats 8000000 in
set_option maxRecDepth 100000 in
theorem union_calls (l : List (List S36)) (hl : GoodL l) (hlen : (pairs l).length ≤ 1000000) (ws : List Int) (agg : Int) (hagg : W64 agg) (A : Option Addr) (c : Nat) (A2 : Option Addr) (c2 : Nat) (p q : Addr) (w : World) (hG : G2 p q w) (hC : Kd.C (Kd.slice 36 k36) w A l.length l) (hC2 : Kd.C (Kd.int .i64) w A2 ws.length ws) (hws : ws.length ≤ maxLen) :
    Calls Tryd.prog 12 #[.slice A l.length c, .slice A2 ws.length c2, .int .i64 agg] w fun e w' => ∃ v : Value, e = .returned (.tuple #[v, .int .i64 (madeF l ws agg 1).2]) ∧ Kd.R k36 36 w' w.heap.size (fun k => w.heap.size ≤ k) v (madeF l ws agg 1).1 ∧ Below w.heap.size w w' := by
  have hm := made_calls l hl hlen ws agg 1 hagg A c A2 c2 p q w hG.g hC hC2 hws
  have he := madeF_err l ws agg 1
  have HG := Aside0.mk hG
  clear hl hlen hagg hG hC hC2 hws
  generalize madeF l ws agg 1 = m at hm he ⊢
  obtain ⟨xs, n⟩ := m
  simp only at hm he ⊢
  go_enter Tryd.func12, Tryd.ntmps12
  go_wp2_with fail
  refine hm.mono ?_
  rintro e w1 ⟨v, rfl, hR, b1⟩
  have B1 := Aside0.mk b1
  have HR := Aside0.mk hR
  have HT := Aside0.mk (told_calls p q n he w1 (HG.out.on b1))
  generalize errOf p q n = ev at HT ⊢
  clear b1 hR hm
  go_wp2_with fail
  refine HT.out.mono ?_
  rintro e w2 ⟨rfl, rfl⟩
  go_wp2_with fail
  go_ret2
  exact ⟨_, rfl, HR.out, B1.out⟩
end Go.Proofs.YtidhbpfkiapcjaaDoor.P
