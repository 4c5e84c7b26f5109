/- Results that stand in memory: two variables, loaded at a function's end. Conditions: each theorem names its own. -/
import Derived.Test.YtnlbdmiflihghaaSK2
namespace Go.Proofs.Ytnlbdmiflihghaa.P
open Go.RowKit Go.Shelf Go.Proofs.YtnlbdmiflihghaaW.PrintWords Go.Proofs.YtnlbdmiflihghaaW.PrintLast Go.Proofs.YtnlbdmiflihghaaW.PrintMore Go.Proofs.Ytnlbdmiflihghaa.SK
attribute [local go_sem] Oper.semAt_some

theorem results_cells {P : Program} {fn : Func} {a b : Tmp} {t u : TypeId} (h : fn.results = #[.cell a t, .cell b u]) {tmps : Array Value} {w : World} {A B : Addr} {v v' : Value} (ha : tmps.getD a undef = .pointer (some A)) (hb : tmps.getD b undef = .pointer (some B))
    (h1 : (loadVar t A).run P w = .ok v w) (h2 : (loadVar u B).run P w = .ok v' w) : (results fn tmps).run P w = .ok (.tuple #[v, v']) w := by
  rw [Array.getD_eq_getD_getElem?] at ha hb
  simp [results, h, ha, hb, asAddr, h1, h2]
theorem loadVar_agg {P : Program} {w : World} {t : TypeId} {A : Addr} {n : Nat} {vs : Array Value} (hi : (isAgg t).run P w = .ok true w) (hs : (sizeOf t).run P w = .ok n w) (h : (loadCellsFrom A 0 n #[]).run P w = .ok vs w) : (loadVar t A).run P w = .ok (.agg vs) w := by
  simp [loadVar, hi, hs, loadCells, h]
theorem loadVar68 {w : World} {A : Addr} {vs : Array Value} (h : (loadCellsFrom A 0 32 #[]).run Try.prog w = .ok vs w) : (loadVar 68 A).run Try.prog w = .ok (.agg vs) w := loadVar_agg (by kernel_rfl) (by kernel_rfl) h
theorem loadVar69 {w : World} {A : Addr} {vs : Array Value} (h : (loadCellsFrom A 0 32 #[]).run Try.prog w = .ok vs w) : (loadVar 69 A).run Try.prog w = .ok (.agg vs) w := loadVar_agg (by kernel_rfl) (by kernel_rfl) h
end Go.Proofs.Ytnlbdmiflihghaa.P
