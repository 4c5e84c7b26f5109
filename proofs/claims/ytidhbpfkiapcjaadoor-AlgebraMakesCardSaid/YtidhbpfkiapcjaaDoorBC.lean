/- algebra.ways: a new map of three functions; what each of them answers. -/
import Derived.Test.YtidhbpfkiapcjaaDoorMQ
import Derived.Test.YtidhbpfkiapcjaaDoorPx10
import Derived.Maps.OwnOps
import Derived.Maps.OwnSet
namespace Go.Proofs.YtidhbpfkiapcjaaDoor.P
open Go Go.Maps Go.RowKit Go.Lib Go.Proofs.YtidhbpfkiapcjaaDoorW.PrintWords Go.Proofs.YtidhbpfkiapcjaaDoorW.PrintLast Go.Proofs.YtidhbpfkiapcjaaDoorW.PrintMore Go.Proofs.YtidhbpfkiapcjaaDoor.Pure
attribute [local go_sem] Oper.semAt_some

/-- How a function of the map reads: as its number. -/
def fnE : Value → Option (DataW Unit × List MemPlace)
  | .func (.func f) u v => if u.size = 0 ∧ v.size = 0 then some (.lit (.int .i64 f), []) else none
  | .nilFunc => some (.nil, [])
  | _ => none
theorem fnE_mk (f : Nat) : fnE (.func (.func f) #[] #[]) = some (.lit (.int .i64 f), []) := rfl
theorem fnE_inv {v : Value} {f : Int} {ps : List MemPlace} (h : fnE v = some (.lit (.int .i64 f), ps)) : v = .func (.func f.toNat) #[] #[] := by
  unfold fnE at h
  split at h
  · rename_i g a b
    split at h
    · rename_i hc
      obtain ⟨rfl, rfl⟩ : a = #[] ∧ b = #[] := ⟨Array.eq_empty_of_size_eq_zero hc.1, Array.eq_empty_of_size_eq_zero hc.2⟩
      injection h with h
      injection h with h _
      injection h with h
      injection h with _ h
      rw [← h]
      rfl
    · cases h
  · injection h with h
    injection h with h _
    cases h
  · cases h
theorem fnE_nil {v : Value} {ps : List MemPlace} (h : fnE v = some (.nil, ps)) : v = .nilFunc := by
  unfold fnE at h
  split at h
  · split at h
    · injection h with h
      injection h with h _
      cases h
    · cases h
  · rfl
  · cases h
/-- The map of the ways. -/
def waysD : DataW Unit := ((((DataW.map [] : DataW Unit).put (.int .i64 1) (.lit (.int .i64 51))).put (.int .i64 2) (.lit (.int .i64 52))).put (.int .i64 3) (.lit (.int .i64 53)))
/-- The number of a way's function. -/
def wayN (agg : Int) : Option Int := if agg = 1 then some 51 else if agg = 2 then some 52 else if agg = 3 then some 53 else none
theorem waysD_at (agg : Int) : waysD.atKey (.int .i64 agg) .nil = (match wayN agg with | some f => .lit (.int .i64 f) | none => .nil) ∧ Maps.has waysD (.int .i64 agg) = (wayN agg).isSome := by
  have e : waysD = .map [(.int .i64 1, .lit (.int .i64 51)), (.int .i64 2, .lit (.int .i64 52)), (.int .i64 3, .lit (.int .i64 53))] := by rfl
  rw [e]
  unfold wayN
  by_cases h1 : agg = 1
  · subst h1; exact ⟨rfl, rfl⟩
  · by_cases h2 : agg = 2
    · subst h2; exact ⟨rfl, rfl⟩
    · by_cases h3 : agg = 3
      · subst h3; exact ⟨rfl, rfl⟩
      · rw [if_neg h1, if_neg h2, if_neg h3]
        have s : ∀ k : Int, agg ≠ k → (Lit.int .i64 k).sameKey (.int .i64 agg) = false := fun k hk => by
          unfold Lit.sameKey
          simp
          exact fun e => hk e.symm
        constructor
        · unfold DataW.atKey
          simp [s 1 h1, s 2 h2, s 3 h3]
        · unfold Maps.has
          simp [s 1 h1, s 2 h2, s 3 h3]
section
variable {H : Type} {P : Program} (w : World) {ops : Array Oper} {rest : List Oper} {o : Oper} {a : Act} {Q : Exit → Act → World → Prop}
theorem wpList_ins (hg : o.guard = none) (m x v : Operand) (t : TypeId) (hop : o.op = Op.insert t m x v) (k e : TypeId) (K : Maps.Keyed P k) (ht : P.underlying t = some (.map k e)) (R : Value → Option (DataW H × List MemPlace)) (b n : Nat) (D : DataW H)
    (hm : a.eval m = .map (some b)) (hown : w.ownsMap P k R b n D) (hn : n < maxLen) (key val : Value) (kl : Lit) (hx : a.eval x = key) (hv : a.eval v = val) (hkey : keyOf P k key = some kl) (d : DataW H) (ps : List MemPlace) (hval : R val = some (d, ps))
    (hK : ∀ w', w'.ownsMap P k R b (n + 1) (D.put kl d) → w.grownBy w' (some b) → wpList P ops Q rest (a.put o.dst undef) w') :
    wpList P ops Q (o :: rest) a w := by
  refine wpList_plain hg fun K' hK' => ?_
  obtain ⟨w', hrun, r1, r2⟩ := hown.update K ht hn hkey hval
  unfold Oper.wp
  simp [execOp, hop, hm, hx, hv, hrun, Result.andThen]
  exact hK' _ _ (hK w' r1 r2)
end
theorem key3 (n : Int) (h : (Lit.int .i64 n).wf = true) : keyOf Tryd.prog 3 (.int .i64 n) = some (.int .i64 n) := by
  simp [keyOf, mapKey, Tryd.underlying3, h]
set_option maxHeartbeats 8000000 in
set_option maxRecDepth 100000 in
theorem ways_calls (w : World) : Calls Tryd.prog 39 #[] w fun e w' => ∃ b, e = .returned (.map (some b)) ∧ w.heap.size ≤ b ∧ w'.ownsMap Tryd.prog 3 fnE b 3 waysD ∧ Below w.heap.size w w' := by
  have hmm := @run_makeMap Tryd.prog
  have h0 : (w.alloc (.map #[] 0)).ownsMap Tryd.prog 3 fnE w.heap.size 0 (DataW.map []) := w.ownsMap_made Tryd.prog 3 fnE
  have k1 := key3 1 rfl
  have k2 := key3 2 rfl
  have k3 := key3 3 rfl
  go_enter Tryd.func39, Tryd.ntmps39
  go_wp2_with (first
    | (refine wpList_ins _ rfl (.tmp 1) (.const (.int .i64 1)) (.func 51) 64 rfl 3 62 (int_keyed Tryd.underlying3) Tryd.underlying64 fnE w.heap.size 0 _ rfl h0 (by decide) _ _ _ rfl rfl k1 _ _ (fnE_mk 51) ?_; intro w1 h1 g1)
    | (refine wpList_ins _ rfl (.tmp 1) (.const (.int .i64 2)) (.func 52) 64 rfl 3 62 (int_keyed Tryd.underlying3) Tryd.underlying64 fnE w.heap.size 1 _ rfl h1 (by decide) _ _ _ rfl rfl k2 _ _ (fnE_mk 52) ?_; intro w2 h2 g2)
    | (refine wpList_ins _ rfl (.tmp 1) (.const (.int .i64 3)) (.func 53) 64 rfl 3 62 (int_keyed Tryd.underlying3) Tryd.underlying64 fnE w.heap.size 2 _ rfl h2 (by decide) _ _ _ rfl rfl k3 _ _ (fnE_mk 53) ?_; intro w3 h3 g3))
  go_ret
  have b0 : Below w.heap.size w (w.alloc (.map #[] 0)) := (Below.refl _ _).alloc (Nat.le_refl _) _
  have b1 := b0.grown g1 b0.size (fun k e => by cases e; exact Nat.le_refl _)
  have b2 := b1.grown g2 b1.size (fun k e => by cases e; exact Nat.le_refl _)
  exact ⟨w.heap.size, rfl, Nat.le_refl _, h3, b2.grown g3 b2.size (fun k e => by cases e; exact Nat.le_refl _)⟩
set_option maxHeartbeats 8000000 in
theorem min_calls (a b : Int) (w : World) : Calls Tryd.prog 52 #[.int .i64 a, .int .i64 b] w fun e w' => e = .returned (.tuple #[.int .i64 (mn a b), .int .i64 0]) ∧ w' = w := by
  unfold mn
  by_cases h : b < a
  · rw [if_pos h]
    go_enter Tryd.func52, Tryd.ntmps52
    go_wp2
    go_ret2
    exact ⟨rfl, rfl⟩
  · rw [if_neg h]
    go_enter Tryd.func52, Tryd.ntmps52
    go_wp2
    go_ret2
    exact ⟨rfl, rfl⟩
set_option maxHeartbeats 8000000 in
theorem max_calls (a b : Int) (w : World) : Calls Tryd.prog 53 #[.int .i64 a, .int .i64 b] w fun e w' => e = .returned (.tuple #[.int .i64 (mx a b), .int .i64 0]) ∧ w' = w := by
  unfold mx
  by_cases h : a < b
  · rw [if_pos h]
    go_enter Tryd.func53, Tryd.ntmps53
    go_wp2
    go_ret2
    exact ⟨rfl, rfl⟩
  · rw [if_neg h]
    go_enter Tryd.func53, Tryd.ntmps53
    go_wp2
    go_ret2
    exact ⟨rfl, rfl⟩
end Go.Proofs.YtidhbpfkiapcjaaDoor.P
