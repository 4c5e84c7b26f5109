/- The list's small functions: how many, how high, a new one, places within. Conditions: each theorem names its own. -/
import Derived.Test.YtnlbdmiflihghaaSK6
namespace Go.Proofs.Ytnlbdmiflihghaa.P
open Go.RowKit Go.Shelf Go.Proofs.YtnlbdmiflihghaaW.PrintWords Go.Proofs.YtnlbdmiflihghaaW.PrintLast Go.Proofs.YtnlbdmiflihghaaW.PrintMore Go.Proofs.Ytnlbdmiflihghaa.SK
theorem max_mx (ats : Array TypeId) (ty : TypeId) (k k' : IntKind) (a b : Int) : Builtin.max_ ats ty #[.int k a, .int k' b] = pure (.int k (mx a b)) := by rw [max_two, max2_int]; rfl
theorem min_mn (ats : Array TypeId) (ty : TypeId) (k k' : IntKind) (a b : Int) : Builtin.min_ ats ty #[.int k a, .int k' b] = pure (.int k (mn a b)) := by rw [min_two, min2_int]; rfl
attribute [local go_sem] Oper.semAt_some
attribute [local go_sem high] max_mx min_mn

theorem len_calls {b : Nat} {bs : List Nat} {σ : St} {w : World} (hS : Sk w b bs σ) : Calls Try.prog 12 #[.pointer (some ⟨b, 0, none⟩)] w fun e w' => e = .returned (.int .i64 (σ.n : Int)) ∧ w' = w := by
  have hn := hS.n_
  clear hS
  go_enter Try.func12, Try.ntmps12
  go_wp2
  go_ret
  exact ⟨rfl, rfl⟩
theorem len_nil (w : World) : Calls Try.prog 12 #[.pointer none] w fun e w' => e = .returned (.int .i64 0) ∧ w' = w := by
  go_enter Try.func12, Try.ntmps12
  go_wp2
  go_ret
  exact ⟨rfl, rfl⟩
theorem levels_calls {b : Nat} {bs : List Nat} {σ : St} {w : World} (hS : Sk w b bs σ) : Calls Try.prog 16 #[.pointer (some ⟨b, 0, none⟩)] w fun e w' => e = .returned (.int .i64 (σ.H : Int)) ∧ w' = w := by
  have hn := hS.H_
  clear hS
  go_enter Try.func16, Try.ntmps16
  go_wp2
  go_ret
  exact ⟨rfl, rfl⟩
theorem levels_nil (w : World) : Calls Try.prog 16 #[.pointer none] w fun e w' => e = .returned (.int .i64 0) ∧ w' = w := by
  go_enter Try.func16, Try.ntmps16
  go_wp2
  go_ret
  exact ⟨rfl, rfl⟩
/-- Places within: from, to. -/
def inF (n f : Int) : Int := mx 0 (mn f n)
def inT (n f t : Int) : Int := mx (inF n f) (mn t n)
set_option maxHeartbeats 2000000 in
theorem within_of (p : Option Addr) (n f t : Int) (w : World) (hl : Calls Try.prog 12 #[.pointer p] w fun e w' => e = .returned (.int .i64 n) ∧ w' = w) :
    Calls Try.prog 37 #[.pointer p, .int .i64 f, .int .i64 t] w fun e w' => e = .returned (.tuple #[.int .i64 (inF n f), .int .i64 (inT n f t)]) ∧ w' = w := by
  go_enter Try.func37, Try.ntmps37
  go_wp2_with fail
  refine hl.mono ?_
  rintro e w1 ⟨rfl, rfl⟩
  go_wp2_with fail
  refine hl.mono ?_
  rintro e w1 ⟨rfl, rfl⟩
  go_wp2
  go_ret2
  exact ⟨rfl, rfl⟩
set_option maxHeartbeats 2000000 in
theorem max_calls (B : Nat) (a c : Int) (w : World) (h0 : w.cell? ⟨B, 0, none⟩ = some (.int .i64 a)) (h1 : w.cell? ⟨B, 1, none⟩ = some (.int .i64 c)) :
    Calls Try.prog 47 #[.slice (some ⟨B, 0, none⟩) 2 2] w fun e w' => e = .returned (.int .i64 (mx a c)) ∧ w' = w := by
  go_enter Try.func47, Try.ntmps47
  go_wp2
  go_loopg [3, 4] 2 (fun gk v3 v4 wr => wr = w ∧ ((gk = 2 ∧ v3 = .int .i64 a ∧ v4 = .int .i64 1) ∨ (gk = 1 ∧ v3 = .int .i64 (mx a c) ∧ v4 = .int .i64 2)))
  case atStart => exact ⟨rfl, .inl ⟨rfl, rfl, rfl⟩⟩
  case round =>
    obtain ⟨rfl, ⟨rfl, rfl, rfl⟩ | ⟨rfl, rfl, rfl⟩⟩ := hrel
    · go_wp2
      go_roundg 1
      case measure => omega
      case rel => exact ⟨rfl, .inr ⟨rfl, rfl, by go_num⟩⟩
    · go_wp2
      go_ret
      exact ⟨rfl, rfl⟩
theorem highest_calls (B : Nat) (a c : Int) (w : World) (h0 : w.cell? ⟨B, 0, none⟩ = some (.int .i64 a)) (h1 : w.cell? ⟨B, 1, none⟩ = some (.int .i64 c)) :
    Calls Try.prog 40 #[.slice (some ⟨B, 0, none⟩) 2 2] w fun e w' => e = .returned (.int .i64 (mx a c)) ∧ w' = w := by
  go_enter Try.func40, Try.ntmps40
  go_wp2_with fail
  refine (max_calls B a c w h0 h1).mono ?_
  rintro e w1 ⟨rfl, rfl⟩
  go_wp2
  go_ret
  exact ⟨rfl, rfl⟩
/-- A list with nothing. -/
def σ0 : St := { E := fun _ => (⟨#[]⟩, 0), lev := fun _ => 0, tow := fun _ _ => (none, 0), bk := fun _ => none, last := none, H := 0, n := 0 }
theorem head0 : (List.range 71).map (headC (fun _ => (none, 0)) none 0 0) = [.string ⟨#[]⟩, .int .i64 0, .pointer none, .int .i64 0, .pointer none, .int .i64 0, .pointer none, .int .i64 0, .pointer none, .int .i64 0, .pointer none, .int .i64 0, .pointer none, .int .i64 0, .pointer none, .int .i64 0, .pointer none, .int .i64 0, .pointer none, .int .i64 0, .pointer none, .int .i64 0, .pointer none, .int .i64 0, .pointer none, .int .i64 0, .pointer none, .int .i64 0, .pointer none, .int .i64 0, .pointer none, .int .i64 0, .pointer none, .int .i64 0, .pointer none, .int .i64 0, .pointer none, .int .i64 0, .pointer none, .int .i64 0, .pointer none, .int .i64 0, .pointer none, .int .i64 0, .pointer none, .int .i64 0, .pointer none, .int .i64 0, .pointer none, .int .i64 0, .pointer none, .int .i64 0, .pointer none, .int .i64 0, .pointer none, .int .i64 0, .pointer none, .int .i64 0, .pointer none, .int .i64 0, .pointer none, .int .i64 0, .pointer none, .int .i64 0, .pointer none, .int .i64 0, .int .i64 0, .pointer none, .pointer none, .int .i64 0, .int .i64 0] := by kernel_rfl
theorem bk_range {W : World} {B : Nat} {T : TypeId} {N : Nat} {f : Nat → Value} {l : List Value} (h : W.heap[B]? = some (.cells l.toArray T (0, 0))) (hl : (List.range N).map f = l) : Bk W B T N f := by
  subst hl
  refine Bk.of _ h (by simp) (fun j hj => ?_)
  simp [hj]
theorem shape0 (b : Nat) : Shape b [] σ0 where
  len := rfl
  small := by simp
  nodup := List.nodup_nil
  lv1 := fun c hc => by cases hc
  H32 := by decide
  Hex := .inl rfl
  tw := fun p hp i hi => by
    have : p = 0 := by simpa using hp
    subst this
    exact absurd hi (Nat.not_lt_zero _)
  tz := fun c hc => by cases hc
  bks := fun p h1 h2 => by simp at h2; omega
  lst := rfl
set_option maxHeartbeats 2000000 in
set_option maxRecDepth 100000 in
theorem zero64 (w : World) : (zeroValue 64).run Try.prog w = .ok (.agg #[.string ⟨#[]⟩, .int .i64 0, .pointer none, .int .i64 0, .pointer none, .int .i64 0, .pointer none, .int .i64 0, .pointer none, .int .i64 0, .pointer none, .int .i64 0, .pointer none, .int .i64 0, .pointer none, .int .i64 0, .pointer none, .int .i64 0, .pointer none, .int .i64 0, .pointer none, .int .i64 0, .pointer none, .int .i64 0, .pointer none, .int .i64 0, .pointer none, .int .i64 0, .pointer none, .int .i64 0, .pointer none, .int .i64 0, .pointer none, .int .i64 0, .pointer none, .int .i64 0, .pointer none, .int .i64 0, .pointer none, .int .i64 0, .pointer none, .int .i64 0, .pointer none, .int .i64 0, .pointer none, .int .i64 0, .pointer none, .int .i64 0, .pointer none, .int .i64 0, .pointer none, .int .i64 0, .pointer none, .int .i64 0, .pointer none, .int .i64 0, .pointer none, .int .i64 0, .pointer none, .int .i64 0, .pointer none, .int .i64 0, .pointer none, .int .i64 0, .pointer none, .int .i64 0, .int .i64 0, .pointer none, .pointer none, .int .i64 0, .int .i64 0]) w := by kernel_rfl
set_option maxHeartbeats 2000000 in
set_option maxRecDepth 100000 in
theorem new_calls (w : World) : Calls Try.prog 17 #[] w fun e w' => e = .returned (.pointer (some ⟨w.heap.size, 0, none⟩)) ∧ Sk w' w.heap.size [] σ0 ∧ Below w.heap.size w w' := by
  go_enter Try.func17, Try.ntmps17
  have hz := zero64 w
  go_wp2
  go_ret
  refine ⟨rfl, ⟨?_, (fun c hc => by cases hc), List.not_mem_nil⟩, below_alloc (Below.refl _ _) _⟩
  exact bk_range (World.alloc_heap_new w _) head0
end Go.Proofs.Ytnlbdmiflihghaa.P
