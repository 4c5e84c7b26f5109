/- What the laws' walks need of the calls that they make: shown, Few, Union, Inter, Diff, Same, at small sets. Conditions: each theorem names its own. -/
import Derived.Test.YtidhbpfkiapcjaaDoorMG
import Derived.Test.YtidhbpfkiapcjaaDoorPy2
namespace Go.Proofs.YtidhbpfkiapcjaaDoor.P
open Go.RowKit Go.Lib Go.Proofs.YtidhbpfkiapcjaaDoorW.PrintWords Go.Proofs.YtidhbpfkiapcjaaDoorW.PrintLast Go.Proofs.YtidhbpfkiapcjaaDoorW.PrintMore Go.Proofs.YtidhbpfkiapcjaaDoor.Pure

theorem one_C {w : World} {A : Option Addr} {c : Nat} (l : List S36) (hC : Kd.C k36 w A l.length l) (hc : l.length ≤ c) : Kd.C (Kd.slice 36 k36) (w.alloc (.cells #[.slice A l.length c] 26)) (some ⟨w.heap.size, 0, none⟩) 1 [l] := by
  refine ⟨rfl, by decide, fun _ => ⟨_, rfl, fun j p hj => ?_⟩⟩
  have hj0 : j = 0 := by have := (List.getElem?_eq_some_iff.1 hj).1; simp at this; exact this
  subst hj0
  obtain rfl : l = p := by simpa using hj
  refine ⟨[.slice A l.length c], rfl, ⟨A, c, rfl, hc, Kd.C_alloc hC _⟩, fun i u hu => ?_⟩
  have h1 : (w.alloc (.cells #[.slice A l.length c] 26)).heap[w.heap.size]? = some (.cells #[.slice A l.length c] 26) := World.alloc_heap_new w _
  have hi0 : i = 0 := by have := (List.getElem?_eq_some_iff.1 hu).1; simp at this; exact this
  subst hi0
  rw [add_own]
  simp only [World.cell?, h1]
  simpa using hu
theorem two_L {w : World} {A B : Option Addr} {c d : Nat} (l m : List S36) (hC : Kd.C k36 w A l.length l) (hc : l.length ≤ c) (hD : Kd.C k36 w B m.length m) (hd : m.length ≤ d) : Kd.C (Kd.slice 36 k36) (w.alloc (.cells #[.slice A l.length c, .slice B m.length d] 26)) (some ⟨w.heap.size, 0, none⟩) 2 [l, m] := by
  have h1 : (w.alloc (.cells #[.slice A l.length c, .slice B m.length d] 26)).heap[w.heap.size]? = some (.cells #[.slice A l.length c, .slice B m.length d] 26) := World.alloc_heap_new w _
  refine ⟨rfl, by decide, fun _ => ⟨_, rfl, fun j p hj => ?_⟩⟩
  rcases j with _ | _ | j
  · obtain rfl : l = p := by simpa using hj
    refine ⟨[.slice A l.length c], rfl, ⟨A, c, rfl, hc, Kd.C_alloc hC _⟩, fun i u hu => ?_⟩
    have hi0 : i = 0 := by have := (List.getElem?_eq_some_iff.1 hu).1; simp at this; exact this
    subst hi0
    rw [add_own]
    simp only [World.cell?, h1]
    exact hu
  · obtain rfl : m = p := by simpa using hj
    refine ⟨[.slice B m.length d], rfl, ⟨B, d, rfl, hd, Kd.C_alloc hD _⟩, fun i u hu => ?_⟩
    have hi0 : i = 0 := by have := (List.getElem?_eq_some_iff.1 hu).1; simp at this; exact this
    subst hi0
    rw [add_own]
    simp only [World.cell?, h1]
    exact hu
  · simp at hj
theorem ones_C (n : Nat) (hn : n = 1 ∨ n = 2) (W : World) : Kd.C (Kd.int .i64) (W.alloc (.cells (List.replicate n (Value.int .i64 1)).toArray 2)) (some ⟨W.heap.size, 0, none⟩) (List.replicate n (1 : Int)).length (List.replicate n 1) := by
  have h1 : (W.alloc (.cells (List.replicate n (Value.int .i64 1)).toArray 2)).heap[W.heap.size]? = some (.cells (List.replicate n (Value.int .i64 1)).toArray 2) := World.alloc_heap_new W _
  refine Kd.C_of_reads (d := (0 : Int)) ⟨rfl, by rw [List.length_replicate]; rcases hn with rfl | rfl <;> decide, fun _ => ⟨_, rfl, fun j hj => ?_⟩⟩
  rw [add_own]
  simp only [World.cell?, h1]
  rw [List.length_replicate] at hj
  rcases hn with rfl | rfl
  · obtain rfl : j = 0 := by omega
    rfl
  · have : j = 0 ∨ j = 1 := by omega
    rcases this with rfl | rfl <;> rfl
theorem shown_w (p q : Addr) (w : World) (hG : G2 p q w) : Calls Tryd.prog 10 #[] w fun e w' => e = .returned (.bool true) ∧ Below w.heap.size w w' := paliolaw13_shown.calls (p := p) (q := q) 10 true w hG (shown_true 10 (by omega))
theorem few_w (l : List (List S36)) (s : Bool) (A : Option Addr) (c : Nat) (hc : l.length ≤ c) (w : World) (hC : Kd.C (Kd.slice 36 k36) w A l.length l) :
    Calls Tryd.prog 11 #[.slice A l.length c, .bool s] w fun e w' => ∃ v : Value, e = .returned v ∧ Kd.S (Kd.slice 36 k36) 26 w' w.heap.size (fun _ => True) v (fewL l s) ∧ Below w.heap.size w w' :=
  paliolaw13_Few.calls 700 A c l s (fewL l s) w hC hc (few_ref l s 700 (by omega))
theorem same_w (a b : List S36) (ha : a.length ≤ 1000) (A : Option Addr) (c : Nat) (hc : a.length ≤ c) (B : Option Addr) (d : Nat) (hd : b.length ≤ d) (w : World) (hA : Kd.C k36 w A a.length a) (hB : Kd.C k36 w B b.length b) :
    Calls Tryd.prog 18 #[.slice A a.length c, .slice B b.length d] w fun e w' => e = .returned (.bool (decide (a = b))) ∧ Drawn0 w w' :=
  palioref05_Same.calls 1001 A c a B d b (decide (a = b)) w hA hc hB hd (same_ref a b (by omega) 1001 (by omega))
theorem union_w (l : List (List S36)) (hs : Small l) (ws : List Int) (agg : Int) (hw : okW ws agg = true) (A : Option Addr) (c : Nat) (hc : l.length ≤ c) (B : Option Addr) (d : Nat) (hd : ws.length ≤ d) (p q : Addr) (w : World) (hG : G2 p q w) (hA : Kd.C (Kd.slice 36 k36) w A l.length l) (hB : Kd.C (Kd.int .i64) w B ws.length ws) :
    Calls Tryd.prog 12 #[.slice A l.length c, .slice B ws.length d, .int .i64 agg] w fun e w' => ∃ v : Value, e = .returned (.tuple #[v, .int .i64 (madeF l ws agg 1).2]) ∧ Kd.R k36 36 w' w.heap.size (fun _ => True) v (madeF l ws agg 1).1 ∧ Below w.heap.size w w' :=
  algebra_Union.calls (p := p) (q := q) A c l B d ws agg _ _ w hA hc hB hd hG (by unfold algebra_Union.f; rw [okL_small hs, hw]; rfl)
theorem inter_w (l : List (List S36)) (hs : Small l) (ws : List Int) (agg : Int) (hw : okW ws agg = true) (A : Option Addr) (c : Nat) (hc : l.length ≤ c) (B : Option Addr) (d : Nat) (hd : ws.length ≤ d) (p q : Addr) (w : World) (hG : G2 p q w) (hA : Kd.C (Kd.slice 36 k36) w A l.length l) (hB : Kd.C (Kd.int .i64) w B ws.length ws) :
    Calls Tryd.prog 14 #[.slice A l.length c, .slice B ws.length d, .int .i64 agg] w fun e w' => ∃ v : Value, e = .returned (.tuple #[v, .int .i64 (madeF l ws agg (leastI l)).2]) ∧ Kd.R k36 36 w' w.heap.size (fun _ => True) v (madeF l ws agg (leastI l)).1 ∧ Below w.heap.size w w' :=
  algebra_Inter.calls (p := p) (q := q) A c l B d ws agg _ _ w hA hc hB hd hG (by unfold algebra_Inter.f; rw [okL_small hs, hw]; rfl)
theorem diff_w (l : List (List S36)) (hs : Small l) (A : Option Addr) (c : Nat) (hc : l.length ≤ c) (p q : Addr) (w : World) (hG : G2 p q w) (hA : Kd.C (Kd.slice 36 k36) w A l.length l) :
    Calls Tryd.prog 16 #[.slice A l.length c] w fun e w' => ∃ v : Value, e = .returned (.tuple #[v, .int .i64 (diffF l).2]) ∧ Kd.R k36 36 w' w.heap.size (fun _ => True) v (diffF l).1 ∧ Below w.heap.size w w' :=
  algebra_Diff.calls (p := p) (q := q) A c l _ _ w hA hc hG (by unfold algebra_Diff.f; rw [okL_small hs]; rfl)
end Go.Proofs.YtidhbpfkiapcjaaDoor.P
