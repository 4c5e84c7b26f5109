/- What is made of sets, in plain words: products and ways of two numbers, a step of the making, all steps. -/
import Derived.Test.YtidhbpfkiapcjaaDoorBB
import Derived.Test.YtidhbpfkiapcjaaDoorBC
import Derived.Test.YtidhbpfkiapcjaaDoorMP
namespace Go.Proofs.YtidhbpfkiapcjaaDoor.P
open Go Go.RowKit Go.Lib Go.Proofs.YtidhbpfkiapcjaaDoorW.PrintWords Go.Proofs.YtidhbpfkiapcjaaDoorW.PrintLast Go.Proofs.YtidhbpfkiapcjaaDoorW.PrintMore Go.Proofs.YtidhbpfkiapcjaaDoor.Pure

/-- Fits 64 bits. -/
abbrev W64 (n : Int) : Prop := (Lit.int .i64 n).wf = true
theorem W64_wrap (n : Int) : W64 (wrap64 n) := by
  have h : -9223372036854775808 ≤ wrap64 n ∧ wrap64 n ≤ 9223372036854775807 := by unfold wrap64; omega
  exact wfI h.1 h.2
theorem W64_zero : W64 0 := rfl
/-- A product, and what is wrong with it. -/
def mulG (a b : Int) : Int × Int := (ints_Mul.f a b).getD (0, 0)
theorem checked_some (a : Int) (b : Bool) : ints_checked.f a b = some (if b = true then (a, 0) else (0, 11)) := by
  unfold ints_checked.f
  cases b <;> rfl
theorem mulG_some (a b : Int) : ints_Mul.f a b = some (mulG a b) := by
  unfold mulG
  have h : (ints_Mul.f a b).isSome := by
    unfold ints_Mul.f
    repeat' split
    all_goals simp [checked_some]
  obtain ⟨r, hr⟩ := Option.isSome_iff_exists.1 h
  rw [hr]
  rfl
theorem mulG_wf (a b : Int) : W64 (mulG a b).1 := by
  have h : ∀ r, ints_Mul.f a b = some r → W64 r.1 := by
    intro r
    unfold ints_Mul.f
    simp only [checked_some]
    repeat' split
    all_goals
      intro h
      simp only [Option.bind_some, Option.some.injEq] at h
      subst h
      first
        | exact W64_zero
        | (split; first | exact W64_wrap _ | exact W64_zero; first | exact W64_wrap _ | exact W64_zero)
        | exact W64_wrap _
  exact h _ (mulG_some a b)
/-- Two scores put together, and what is wrong with it. -/
def addG (a b : Int) : Int × Int := (ints_Add.f a b).getD (0, 0)
theorem addG_some (a b : Int) : ints_Add.f a b = some (addG a b) := by
  unfold addG
  have h : (ints_Add.f a b).isSome := by
    unfold ints_Add.f
    split <;> simp [checked_some]
  obtain ⟨r, hr⟩ := Option.isSome_iff_exists.1 h
  rw [hr]
  rfl
theorem addG_wf (a b : Int) : W64 (addG a b).1 := by
  have h : ∀ r, ints_Add.f a b = some r → W64 r.1 := by
    intro r
    unfold ints_Add.f
    simp only [checked_some]
    split
    all_goals
      intro h
      simp only [Option.bind_some, Option.some.injEq] at h
      subst h
      split
      · exact W64_wrap _
      · exact W64_zero
  exact h _ (addG_some a b)
def wayG (agg a b : Int) : Int × Int := if agg = 1 then addG a b else if agg = 2 then (mn a b, 0) else (mx a b, 0)
theorem wayG_wf (agg a b : Int) (ha : W64 a) (hb : W64 b) : W64 (wayG agg a b).1 := by
  unfold wayG
  split
  · exact addG_wf a b
  · split
    · show W64 (mn a b); unfold mn; split <;> assumption
    · show W64 (mx a b); unfold mx; split <;> assumption
/-- A step of the making: none where something is too great. -/
def stepM (cnt : List (ByteArray × Int)) (least : Int) (ws : List Int) (agg : Int) (T : List (ByteArray × Int)) (p : Nat × S36) : Option (List (ByteArray × Int)) :=
  if (getT cnt p.2.f0).getD 0 < least then some T
  else if (mulG p.2.f1 (rd ws p.1)).2 = 0 then
    (match getT T p.2.f0 with
      | some old => if (wayG agg old (mulG p.2.f1 (rd ws p.1)).1).2 = 0 then some (putT T p.2.f0 (wayG agg old (mulG p.2.f1 (rd ws p.1)).1).1) else none
      | none => some (putT T p.2.f0 (mulG p.2.f1 (rd ws p.1)).1))
  else none
/-- All steps. -/
def foldM (cnt : List (ByteArray × Int)) (least : Int) (ws : List Int) (agg : Int) (T : List (ByteArray × Int)) : List (Nat × S36) → Option (List (ByteArray × Int))
  | [] => some T
  | p :: ps => (stepM cnt least ws agg T p).bind fun T' => foldM cnt least ws agg T' ps
theorem foldM_append (cnt : List (ByteArray × Int)) (least : Int) (ws : List Int) (agg : Int) : ∀ (ps qs : List (Nat × S36)) (T : List (ByteArray × Int)), foldM cnt least ws agg T (ps ++ qs) = (foldM cnt least ws agg T ps).bind fun T' => foldM cnt least ws agg T' qs
  | [], qs, T => rfl
  | p :: ps, qs, T => by
    rw [List.cons_append, foldM, foldM]
    cases stepM cnt least ws agg T p with
    | none => rfl
    | some T' => exact foldM_append cnt least ws agg ps qs T'
theorem foldM_snoc (cnt : List (ByteArray × Int)) (least : Int) (ws : List Int) (agg : Int) (T : List (ByteArray × Int)) (ps : List (Nat × S36)) (p : Nat × S36) : foldM cnt least ws agg T (ps ++ [p]) = (foldM cnt least ws agg T ps).bind fun T' => stepM cnt least ws agg T' p := by
  rw [foldM_append]
  cases foldM cnt least ws agg T ps with
  | none => rfl
  | some T' =>
    show (stepM cnt least ws agg T' p).bind (fun T'' => some T'') = stepM cnt least ws agg T' p
    cases stepM cnt least ws agg T' p <;> rfl
/-- A table's values fit 64 bits. -/
def WfT (T : List (ByteArray × Int)) : Prop := ∀ p ∈ T, W64 p.2
theorem WfT.put {T : List (ByteArray × Int)} (h : WfT T) (m : ByteArray) {v : Int} (hv : W64 v) : WfT (putT T m v) := by
  intro p hp
  rcases List.mem_cons.1 hp with rfl | hp
  · exact hv
  · exact h p (mem_del.1 hp).1
theorem WfT.get {T : List (ByteArray × Int)} (h : WfT T) {m : ByteArray} {v : Int} (hv : getT T m = some v) : W64 v := by
  unfold getT at hv
  obtain ⟨p, hp, rfl⟩ := Option.map_eq_some_iff.1 hv
  exact h p (List.mem_of_find?_eq_some hp)
theorem stepM_wf {cnt : List (ByteArray × Int)} {least : Int} {ws : List Int} {agg : Int} {T T' : List (ByteArray × Int)} {p : Nat × S36} (h : WfT T) (hs : stepM cnt least ws agg T p = some T') : WfT T' ∧ T'.length ≤ T.length + 1 := by
  unfold stepM at hs
  split at hs
  · cases hs; exact ⟨h, by omega⟩
  · split at hs
    · split at hs
      · split at hs
        · cases hs; exact ⟨h.put _ (wayG_wf _ _ _ (h.get (by assumption)) (mulG_wf _ _)), put_len _ _ _⟩
        · cases hs
      · cases hs; exact ⟨h.put _ (mulG_wf _ _), put_len _ _ _⟩
    · cases hs
/-- A table's entries, sorted. -/
def sortT (T : List (ByteArray × Int)) : List S36 := (T.map (fun p => (⟨p.1, p.2⟩ : S36))).mergeSort leE
/-- What is made of the members that are in so many sets at least; 120: no sets, 11: too great. -/
def madeF (l : List (List S36)) (ws : List Int) (agg least : Int) : List S36 × Int :=
  if setsB l = true ∧ (wayN agg).isSome = true ∧ ws.length = l.length then
    (match foldM (cntT (pairs l)) least ws agg [] (pairs l) with
      | none => ([], 11)
      | some T => (sortT T, 0))
  else ([], 120)
end Go.Proofs.YtidhbpfkiapcjaaDoor.P
