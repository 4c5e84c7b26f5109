/- What is wrong with bytes, told by its number: errors.As at the program's own kind of error. Conditions: that the package's variable 'errorType' lies as the program lays it. -/
import Derived.Test.YtegmbgjolnbgpaaDoorCA
import Derived.WalkKit
import Derived.LaidEql
import Derived.Stop.Asserts
import Derived.RowKitTokens
import Derived.Deep.MidRow
namespace Go.Proofs.YtegmbgjolnbgpaaDoor.P
open Go.RowKit Go.Extern.Stop Go.Stop Go.Extern Go.Proofs.YtegmbgjolnbgpaaDoorW.PrintWords Go.Proofs.YtegmbgjolnbgpaaDoorW.PrintLast Go.Proofs.YtegmbgjolnbgpaaDoorW.PrintMore

theorem valueOf71 (t : Addr) (w : World) : (ReflectliteValue.unpack (.iface 76 (.pointer (some t)))).run Tryd.prog w
    = .ok (.agg #[.pointer (some ⟨1, 76, none⟩), .pointer (some ⟨w.heap.size, 0, none⟩), .int .u64 150]) (w.alloc (.cells #[.pointer (some t)] 76)) := by kernel_rfl
theorem type71 (a : Addr) (w : World) : (ReflectliteValue.methodAny (ReflectliteValue.valueError "reflectlite.Value.Type" 0) (fun t _ _ _ => ReflectliteType.toType t) #[.agg #[.pointer (some ⟨1, 76, none⟩), .pointer (some a), .int .u64 150]]).run Tryd.prog w
    = .ok (.iface 142 (.agg #[.pointer (some ⟨1, 76, none⟩)])) w := by kernel_rfl
theorem methodKind (h : Value) (w : World) : (Go.method 289 142 (.agg #[h]) "Kind").run Tryd.prog w = .ok (96, h) w := by kernel_rfl
theorem kind71 (w : World) : ((ReflectliteType.abiMethod fun t => (fun a : Nat => Value.int IntKind.u8 (a : Int)) <$> Rtype.kind t) #[.pointer (some ⟨1, 76, none⟩)]).run Tryd.prog w = .ok (.int .u8 22) w := by kernel_rfl
theorem kind69 (w : World) : ((ReflectliteType.abiMethod fun t => (fun a : Nat => Value.int IntKind.u8 (a : Int)) <$> Rtype.kind t) #[.pointer (some ⟨1, 74, none⟩)]).run Tryd.prog w = .ok (.int .u8 25) w := by kernel_rfl
theorem rlm (z : Sem Value) (f : TypeId → Addr → Nat → Nat → Sem Value) (v : Value) :
    ReflectliteValue.method z f #[v] = (do match ← ReflectliteValue.parts v with | none => z | some (t, a, fl) => f t a fl (fl % 32)) := rfl
theorem parts71 (a : Addr) (w : World) : (ReflectliteValue.parts (.agg #[.pointer (some ⟨1, 76, none⟩), .pointer (some a), .int .u64 150])).run Tryd.prog w = .ok (some (76, a, 150)) w := by kernel_rfl
theorem isNil71 (a p : Addr) (W : World) (ha : W.cell? a = some (.pointer (some p))) :
    (ReflectliteValue.method (ReflectliteValue.valueError "reflectlite.Value.IsNil" 0) ReflectliteValue.isNil #[.agg #[.pointer (some ⟨1, 76, none⟩), .pointer (some a), .int .u64 150]]).run Tryd.prog W = .ok (.bool false) W := by
  rw [rlm]
  simp only [Sem.run_bind, parts71, Result.andThen]
  simp [ReflectliteValue.isNil, loadVar, isAgg, underlying, Tryd.underlying76, ha, Result.andThen]
theorem methodElem (h : Value) (w : World) : (Go.method 289 142 (.agg #[h]) "Elem").run Tryd.prog w = .ok (109, .agg #[h]) w := by kernel_rfl
theorem methodImplements (h : Value) (w : World) : (Go.method 289 142 (.agg #[h]) "Implements").run Tryd.prog w = .ok (110, .agg #[h]) w := by kernel_rfl
theorem methodAssignableTo (h : Value) (w : World) : (Go.method 289 142 (.agg #[h]) "AssignableTo").run Tryd.prog w = .ok (107, .agg #[h]) w := by kernel_rfl
theorem elem71 (w : World) : (ReflectliteType.method ReflectliteType.elem #[.agg #[.pointer (some ⟨1, 76, none⟩)]]).run Tryd.prog w = .ok (.iface 142 (.agg #[.pointer (some ⟨1, 74, none⟩)])) w := by kernel_rfl
theorem implements69 (w : World) : (ReflectliteType.relation "Implements" ReflectliteType.implements_ #[.agg #[.pointer (some ⟨1, 74, none⟩)], .iface 142 (.agg #[.pointer (some ⟨1, 58, none⟩)])]).run Tryd.prog w = .ok (.bool true) w := by kernel_rfl
theorem typeOf69 (v : Value) (w : World) : (ReflectliteType.typeOf #[.iface 74 v]).run Tryd.prog w = .ok (.iface 142 (.agg #[.pointer (some ⟨1, 74, none⟩)])) w := by kernel_rfl
theorem assignable69 (w : World) : (ReflectliteType.relation "AssignableTo" ReflectliteType.assignableTo #[.agg #[.pointer (some ⟨1, 74, none⟩)], .iface 142 (.agg #[.pointer (some ⟨1, 74, none⟩)])]).run Tryd.prog w = .ok (.bool true) w := by kernel_rfl
theorem valueOf69 (e : Int) (w : World) : (ReflectliteValue.unpack (.iface 74 (.agg #[.int .i64 e]))).run Tryd.prog w
    = .ok (.agg #[.pointer (some ⟨1, 74, none⟩), .pointer (some ⟨w.heap.size, 0, none⟩), .int .u64 153]) (w.alloc (.cells #[.int .i64 e] 74)) := by kernel_rfl
theorem elemOf71 (w : World) : (Rtype.elem? 76).run Tryd.prog w = .ok (some 74) w := by kernel_rfl
theorem mk69 (p : Addr) (w : World) : (ReflectliteValue.mk 74 p ReflectliteValue.flagAddr).run Tryd.prog w = .ok (.agg #[.pointer (some ⟨1, 74, none⟩), .pointer (some p), .int .u64 409]) w := by kernel_rfl
theorem elemV71 (a p : Addr) (W : World) (ha : W.cell? a = some (.pointer (some p))) :
    (ReflectliteValue.method (ReflectliteValue.valueError "reflectlite.Value.Elem" 0) ReflectliteValue.elem #[.agg #[.pointer (some ⟨1, 76, none⟩), .pointer (some a), .int .u64 150]]).run Tryd.prog W
      = .ok (.agg #[.pointer (some ⟨1, 74, none⟩), .pointer (some p), .int .u64 409]) W := by
  rw [rlm]
  simp only [Sem.run_bind, parts71, Result.andThen]
  simp [ReflectliteValue.elem, loadVar, isAgg, underlying, Tryd.underlying76, ha, Result.andThen, elemOf71, mk69]
theorem rls (v x : Value) : ReflectliteValue.set #[v, x] = (do
    let (some (dst, a, fl), some (src, b, _)) := (← ReflectliteValue.parts v, ← ReflectliteValue.parts x)
      | unsupported (.noEntry "extern/(internal/reflectlite.Value).Set.zeroValue")
    if fl / ReflectliteValue.flagAddr % 2 == 0 then unsupported (.noEntry "extern/(internal/reflectlite.Value).Set.unaddressable")
    let val ← loadVar src b
    if ← Rtype.directlyAssignable dst src then storeVar dst a val
    else if ← Rtype.implements dst src then
      if (← Rtype.kind src) == 20 then
        match val with
        | .nilIface => unsupported (.noEntry "extern/reflectlite: a nil value of one interface type handed on as a value of another")
        | _ => storeVar dst a val
      else storeVar dst a (.iface src val)
    else panicString ("reflectlite.Set: value of type " ++ (← Rtype.spelt src) ++ " is not assignable to type " ++ (← Rtype.spelt dst))
    pure (.tuple #[])) := rfl
theorem parts69a (a : Addr) (w : World) : (ReflectliteValue.parts (.agg #[.pointer (some ⟨1, 74, none⟩), .pointer (some a), .int .u64 409])).run Tryd.prog w = .ok (some (74, a, 409)) w := by kernel_rfl
theorem parts69 (a : Addr) (w : World) : (ReflectliteValue.parts (.agg #[.pointer (some ⟨1, 74, none⟩), .pointer (some a), .int .u64 153])).run Tryd.prog w = .ok (some (74, a, 153)) w := by kernel_rfl
theorem direct69 (w : World) : (Rtype.directlyAssignable 74 74).run Tryd.prog w = .ok true w := by kernel_rfl
theorem rangeAt_one {W : World} {B : Nat} {v : Value} (h : W.cell? ⟨B, 0, none⟩ = some v) : W.rangeAt B 0 [v] := by
  intro j x hx
  match j with
  | 0 => simp at hx; subst hx; exact h
  | j + 1 => simp at hx
theorem loadVar69 (B : Nat) (e : Int) (W : World) (hb : W.cell? ⟨B, 0, none⟩ = some (.int .i64 e)) : (loadVar 74 ⟨B, 0, none⟩).run Tryd.prog W = .ok (.agg #[.int .i64 e]) W := by
  have := run_loadVar_mid (P := Tryd.prog) W B 0 74 [.int .i64 e] _ (rangeAt_one hb) Tryd.underlying74 rfl (by kernel_rfl)
  simpa using this
theorem size69 (w : World) : (sizeOf 74).run Tryd.prog w = .ok 1 w := by kernel_rfl
theorem set69 (T B : Nat) (e : Int) (old : Value) (W : World) (hb : W.cell? ⟨B, 0, none⟩ = some (.int .i64 e)) (ht : W.cell? ⟨T, 0, none⟩ = some old) (hf : W.frozen? ⟨T, 0, none⟩ = false) :
    (ReflectliteValue.set #[.agg #[.pointer (some ⟨1, 74, none⟩), .pointer (some ⟨T, 0, none⟩), .int .u64 409], .agg #[.pointer (some ⟨1, 74, none⟩), .pointer (some ⟨B, 0, none⟩), .int .u64 153]]).run Tryd.prog W
      = .ok (.tuple #[]) (W.setCell ⟨T, 0, none⟩ (.int .i64 e)) := by
  rw [rls]
  simp only [Sem.run_bind, parts69a, parts69, Result.andThen]
  simp [ReflectliteValue.flagAddr, loadVar69 B e W hb, Result.andThen, direct69, storeVar, Value.cells, storeCells, Addr.add]
  rw [run_store Tryd.prog W _ _ _ (by rfl)]
  simp [ht, hf]
/-- errors.As(nil, target). -/
theorem as_nil (t : Value) (w : World) : Calls Tryd.prog 38 #[.nilIface, t] w fun e w' => e = .returned (.bool false) ∧ w' = w := by
  go_enter Tryd.func38, Tryd.ntmps38
  go_wp2
  go_ret
  exact ⟨rfl, rfl⟩
set_option maxHeartbeats 4000000 in
theorem as_hit (e : Int) (T : Nat) (old : Value) (w : World) (hg : w.cell? ⟨0, 0, none⟩ = some (.iface 142 (.agg #[.pointer (some ⟨1, 58, none⟩)]))) (ht0 : w.cell? ⟨T, 0, none⟩ = some old) (hf0 : w.frozen? ⟨T, 0, none⟩ = false) :
    Calls Tryd.prog 38 #[.iface 74 (.agg #[.int .i64 e]), .iface 76 (.pointer (some ⟨T, 0, none⟩))] w fun ev w' => ev = .returned (.bool true) ∧ w' = ((((w.alloc (.cells #[.pointer (some ⟨T, 0, none⟩)] 76)).alloc (.cells #[.pointer (some ⟨1, 76, none⟩), .pointer (some ⟨w.heap.size, 0, none⟩), .int .u64 150] 106)).alloc (.cells #[.pointer (some ⟨1, 76, none⟩), .pointer (some ⟨w.heap.size, 0, none⟩), .int .u64 150] 106)).alloc (.cells #[.int .i64 e] 74)).setCell ⟨T, 0, none⟩ (.int .i64 e) := by
  have h6 := @run_callFunc_extern Tryd.prog 56 _ (fun args => ReflectliteValue.unpack (args.getD 0 (.tuple #[]))) Tryd.func56 (by kernel_rfl) (by kernel_rfl) (by kernel_rfl) (by kernel_rfl)
  have h7 := @run_callFunc_extern Tryd.prog 57 _ (ReflectliteValue.methodAny (ReflectliteValue.valueError "reflectlite.Value.Type" 0) (fun t _ _ _ => ReflectliteType.toType t)) Tryd.func57 (by kernel_rfl) (by kernel_rfl) (by kernel_rfl) (by kernel_rfl)
  have h8 := @run_callFunc_extern Tryd.prog 58 _ (ReflectliteValue.method (ReflectliteValue.valueError "reflectlite.Value.IsNil" 0) ReflectliteValue.isNil) Tryd.func58 (by kernel_rfl) (by kernel_rfl) (by kernel_rfl) (by kernel_rfl)
  have h27 := @run_callFunc_extern Tryd.prog 96 _ (ReflectliteType.abiMethod fun t => do pure (.int .u8 (← Rtype.kind t))) Tryd.func96 (by kernel_rfl) (by kernel_rfl) (by kernel_rfl) (by kernel_rfl)
  have h37 := @run_callFunc_extern Tryd.prog 109 _ (ReflectliteType.method ReflectliteType.elem) Tryd.func109 (by kernel_rfl) (by kernel_rfl) (by kernel_rfl) (by kernel_rfl)
  have h38 := @run_callFunc_extern Tryd.prog 110 _ (ReflectliteType.relation "Implements" ReflectliteType.implements_) Tryd.func110 (by kernel_rfl) (by kernel_rfl) (by kernel_rfl) (by kernel_rfl)
  have h10 := @run_callFunc_extern Tryd.prog 68 _ ReflectliteType.typeOf Tryd.func68 (by kernel_rfl) (by kernel_rfl) (by kernel_rfl) (by kernel_rfl)
  have h35 := @run_callFunc_extern Tryd.prog 107 _ (ReflectliteType.relation "AssignableTo" ReflectliteType.assignableTo) Tryd.func107 (by kernel_rfl) (by kernel_rfl) (by kernel_rfl) (by kernel_rfl)
  have h11 := @run_callFunc_extern Tryd.prog 69 _ (ReflectliteValue.method (ReflectliteValue.valueError "reflectlite.Value.Elem" 0) ReflectliteValue.elem) Tryd.func69 (by kernel_rfl) (by kernel_rfl) (by kernel_rfl) (by kernel_rfl)
  have h12 := @run_callFunc_extern Tryd.prog 70 _ ReflectliteValue.set Tryd.func70 (by kernel_rfl) (by kernel_rfl) (by kernel_rfl) (by kernel_rfl)
  have tO := typeOf69
  have mA := methodAssignableTo
  have a25 := assignable69
  have v25 := valueOf69
  have f6 := valueOf71
  have f7 := type71
  have mK := methodKind
  have mE := methodElem
  have mI := methodImplements
  have k27 := kind71
  have k25 := kind69
  have e27 := elem71
  have i25 := implements69
  have n8 := isNil71 ⟨w.heap.size, 0, none⟩ ⟨T, 0, none⟩ ((w.alloc (.cells #[.pointer (some ⟨T, 0, none⟩)] 76)).alloc (.cells #[.pointer (some ⟨1, 76, none⟩), .pointer (some ⟨w.heap.size, 0, none⟩), .int .u64 150] 106)) (by simp)
  have hlt : 0 < w.heap.size := by
    rcases Nat.eq_zero_or_pos w.heap.size with h0 | h
    · simp [World.cell?, h0] at hg
    · exact h
  have hg2 : ((w.alloc (.cells #[.pointer (some ⟨T, 0, none⟩)] 76)).alloc (.cells #[.pointer (some ⟨1, 76, none⟩), .pointer (some ⟨w.heap.size, 0, none⟩), .int .u64 150] 106)).cell? ⟨0, 0, none⟩ = some (.iface 142 (.agg #[.pointer (some ⟨1, 58, none⟩)])) := by
    rw [World.cell?_alloc_lt _ _ ⟨0, 0, none⟩ (by simp), World.cell?_alloc_lt _ _ ⟨0, 0, none⟩ hlt]; exact hg
  have htl : T < w.heap.size := by
    rcases Nat.lt_or_ge T w.heap.size with h | h
    · exact h
    · simp [World.cell?, Array.getElem?_eq_none h] at ht0
  have el := elemV71 ⟨w.heap.size, 0, none⟩ ⟨T, 0, none⟩ (((w.alloc (.cells #[.pointer (some ⟨T, 0, none⟩)] 76)).alloc (.cells #[.pointer (some ⟨1, 76, none⟩), .pointer (some ⟨w.heap.size, 0, none⟩), .int .u64 150] 106)).alloc (.cells #[.pointer (some ⟨1, 76, none⟩), .pointer (some ⟨w.heap.size, 0, none⟩), .int .u64 150] 106)) (by rw [World.cell?_alloc_lt _ _ ⟨w.heap.size, 0, none⟩ (by simp; omega)]; simp)
  have st := set69 T (w.heap.size + 1 + 1 + 1) e old ((((w.alloc (.cells #[.pointer (some ⟨T, 0, none⟩)] 76)).alloc (.cells #[.pointer (some ⟨1, 76, none⟩), .pointer (some ⟨w.heap.size, 0, none⟩), .int .u64 150] 106)).alloc (.cells #[.pointer (some ⟨1, 76, none⟩), .pointer (some ⟨w.heap.size, 0, none⟩), .int .u64 150] 106)).alloc (.cells #[.int .i64 e] 74))
    (by rw [World.cell?_alloc_at _ _ _ _ (by simp)]; rfl)
    (by rw [World.cell?_alloc_lt _ _ _ (by simp; omega), World.cell?_alloc_lt _ _ _ (by simp; omega), World.cell?_alloc_lt _ _ _ (by simp; omega), World.cell?_alloc_lt _ _ _ htl]; exact ht0)
    (by rw [World.frozen?_alloc_old _ _ _ (by simp; omega), World.frozen?_alloc_old _ _ _ (by simp; omega), World.frozen?_alloc_old _ _ _ (by simp; omega), World.frozen?_alloc_old _ _ _ (Nat.ne_of_lt htl)]; exact hf0)
  go_enter Tryd.func38, Tryd.ntmps38
  go_wp2
  refine wp_loop_rounds 1 ?_
  rw [rounds_succ]
  go_wp2
  go_ret
  exact ⟨rfl, rfl⟩
theorem as_told (e : Int) (T : Nat) (old : Value) (w : World) (hg : w.cell? ⟨0, 0, none⟩ = some (.iface 142 (.agg #[.pointer (some ⟨1, 58, none⟩)]))) (ht0 : w.cell? ⟨T, 0, none⟩ = some old) (hf0 : w.frozen? ⟨T, 0, none⟩ = false) :
    Calls Tryd.prog 38 #[.iface 74 (.agg #[.int .i64 e]), .iface 76 (.pointer (some ⟨T, 0, none⟩))] w fun ev w' => ev = .returned (.bool true) ∧ Below T w w' ∧ w'.cell? ⟨T, 0, none⟩ = some (.int .i64 e) := by
  have htl : T < w.heap.size := by
    rcases Nat.lt_or_ge T w.heap.size with h | h
    · exact h
    · simp [World.cell?, Array.getElem?_eq_none h] at ht0
  refine (as_hit e T old w hg ht0 hf0).mono ?_
  rintro ev w1 ⟨rfl, rfl⟩
  refine ⟨rfl, Below.setCell ((((Below.refl T w).alloc (by omega) _).alloc (by simp; omega) _ |>.alloc (by simp; omega) _).alloc (by simp; omega) _) (p := ⟨T, 0, none⟩) (Nat.le_refl _) _, ?_⟩
  refine World.cell?_setCell_same _ _ _ (u := old) ?_
  rw [World.cell?_alloc_lt _ _ _ (by simp; omega), World.cell?_alloc_lt _ _ _ (by simp; omega), World.cell?_alloc_lt _ _ _ (by simp; omega), World.cell?_alloc_lt _ _ _ (by simpa using htl)]
  exact ht0
theorem told_calls (e : Int) (w : World) (hg : w.cell? ⟨0, 0, none⟩ = some (.iface 142 (.agg #[.pointer (some ⟨1, 58, none⟩)]))) :
    Calls Tryd.prog 18 #[.iface 74 (.agg #[.int .i64 e])] w fun ev w' => ev = .returned (.int .i64 e) ∧ Below w.heap.size w w' := by
  have hlt : 0 < w.heap.size := by
    rcases Nat.eq_zero_or_pos w.heap.size with h0 | h
    · simp [World.cell?, h0] at hg
    · exact h
  go_enter Tryd.func18, Tryd.ntmps18
  go_wp2_with fail
  refine (as_told e _ (.int .i64 0) _ (by rw [World.cell?_alloc_lt _ _ ⟨0, 0, none⟩ hlt]; exact hg) (by simp) (by simp)).mono ?_
  rintro ev w1 ⟨rfl, hb, hc⟩
  have hb2 := (below_alloc (Below.refl _ w) (.cells #[.int .i64 0] 74)).trans hb
  go_wp2
  go_ret
  exact ⟨rfl, hb2⟩
end Go.Proofs.YtegmbgjolnbgpaaDoor.P
