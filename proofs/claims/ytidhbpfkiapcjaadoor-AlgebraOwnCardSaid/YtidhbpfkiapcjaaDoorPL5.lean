/- The law AlgebraOwn: in plain words it answers true; a call of it answers true. Conditions: that the package's two errors lie as the program lays them. -/
import Derived.Test.YtidhbpfkiapcjaaDoorMG
import Derived.Test.YtidhbpfkiapcjaaDoorPy4
section
namespace Go.Proofs.YtidhbpfkiapcjaaDoor.Pure
open Go Go.RowKit Go.Proofs.YtidhbpfkiapcjaaDoorW.PrintWords Go.Proofs.YtidhbpfkiapcjaaDoorW.PrintLast Go.Proofs.YtidhbpfkiapcjaaDoorW.PrintMore Go.Proofs.YtidhbpfkiapcjaaDoor.P

theorem own4 (l : List (List S36)) (h : Small l) : ∀ (d i k : Nat), i ≤ l.length → l.length - i = d → d + 100 < k → paliolaw13_AlgebraOwn.l4 k l true l i = some true
  | 0, i, k, hi, hd, hk => by
    obtain ⟨k, rfl⟩ : ∃ n, k = n + 1 := ⟨k - 1, by omega⟩
    unfold paliolaw13_AlgebraOwn.l4
    rw [if_neg (by omega)]
  | d + 1, i, k, hi, hd, hk => by
    obtain ⟨k, rfl⟩ : ∃ n, k = n + 1 := ⟨k - 1, by omega⟩
    have hil : i < l.length := by omega
    have hx := (h.each l[i] (List.getElem_mem hil)).1
    have := h.len
    unfold paliolaw13_AlgebraOwn.l4
    rw [if_pos (by omega), if_pos (by omega), if_pos (by omega), rd3_get hil, same_ref _ _ (by omega) k (by omega), Option.bind_some, decide_eq_true rfl, if_pos rfl, wrap_succ i (by omega)]
    exact own4 l h d (i + 1) k (by omega) (by omega) (by omega)
theorem own3 (l : List (List S36)) (h : Small l) : ∀ (d i k : Nat) (x : List S36), x.length ≤ 1000 → i ≤ x.length → x.length - i = d → d + 200 < k → paliolaw13_AlgebraOwn.l3 k l true l x i = some true
  | 0, i, k, x, hx, hi, hd, hk => by
    obtain ⟨k, rfl⟩ : ∃ n, k = n + 1 := ⟨k - 1, by omega⟩
    have := h.len
    unfold paliolaw13_AlgebraOwn.l3
    rw [if_neg (by omega)]
    exact own4 l h l.length 0 k (by omega) (by omega) (by omega)
  | d + 1, i, k, x, hx, hi, hd, hk => by
    obtain ⟨k, rfl⟩ : ∃ n, k = n + 1 := ⟨k - 1, by omega⟩
    unfold paliolaw13_AlgebraOwn.l3
    rw [if_pos (by omega), if_pos (by omega), wrap_succ i (by omega)]
    exact own3 l h d (i + 1) k _ (by rw [List.length_set]; exact hx) (by rw [List.length_set]; omega) (by rw [List.length_set]; omega) (by omega)
theorem own2 (l : List (List S36)) (h : Small l) (y : List S36) (hy : y.length ≤ 1000) : ∀ (d i k : Nat) (x : List S36), x.length ≤ 1000 → i ≤ x.length → x.length - i = d → d + 1300 < k → paliolaw13_AlgebraOwn.l2 k l true l x y i = some true
  | 0, i, k, x, hx, hi, hd, hk => by
    obtain ⟨k, rfl⟩ : ∃ n, k = n + 1 := ⟨k - 1, by omega⟩
    unfold paliolaw13_AlgebraOwn.l2
    rw [if_neg (by omega)]
    exact own3 l h y.length 0 k y hy (by omega) (by omega) (by omega)
  | d + 1, i, k, x, hx, hi, hd, hk => by
    obtain ⟨k, rfl⟩ : ∃ n, k = n + 1 := ⟨k - 1, by omega⟩
    unfold paliolaw13_AlgebraOwn.l2
    rw [if_pos (by omega), if_pos (by omega), wrap_succ i (by omega)]
    exact own2 l h y hy d (i + 1) k _ (by rw [List.length_set]; exact hx) (by rw [List.length_set]; omega) (by rw [List.length_set]; omega) (by omega)
theorem own1 (l : List (List S36)) (h : Small l) (y z : List S36) (hy : y.length ≤ 1000) (hz : z.length ≤ 1000) : ∀ (d i k : Nat) (x : List S36), x.length ≤ 1000 → i ≤ x.length → x.length - i = d → d + 2400 < k → paliolaw13_AlgebraOwn.l1 k l true l x y z i = some true
  | 0, i, k, x, hx, hi, hd, hk => by
    obtain ⟨k, rfl⟩ : ∃ n, k = n + 1 := ⟨k - 1, by omega⟩
    unfold paliolaw13_AlgebraOwn.l1
    rw [if_neg (by omega)]
    exact own2 l h z hz y.length 0 k y hy (by omega) (by omega) (by omega)
  | d + 1, i, k, x, hx, hi, hd, hk => by
    obtain ⟨k, rfl⟩ : ∃ n, k = n + 1 := ⟨k - 1, by omega⟩
    unfold paliolaw13_AlgebraOwn.l1
    rw [if_pos (by omega), if_pos (by omega), wrap_succ i (by omega)]
    exact own1 l h y z hy hz d (i + 1) k _ (by rw [List.length_set]; exact hx) (by rw [List.length_set]; omega) (by rw [List.length_set]; omega) (by omega)
theorem own0 (l : List (List S36)) (h : Small l) : ∀ (d i k : Nat), i ≤ l.length → l.length - i = d → d + 3500 < k → paliolaw13_AlgebraOwn.l0 k l true l (List.replicate i 1) i = some true
  | 0, i, k, hi, hd, hk => by
    obtain ⟨k, rfl⟩ : ∃ n, k = n + 1 := ⟨k - 1, by omega⟩
    have hl := h.len
    have ho := okL_small h
    unfold paliolaw13_AlgebraOwn.l0
    rw [if_neg (by omega)]
    unfold algebra_Union.f algebra_Inter.f algebra_Diff.f
    rw [okW_ones i (by omega) 3 (.inr (.inr rfl)), ho, Bool.and_self, if_pos rfl, if_pos rfl, if_pos rfl, Option.bind_some, Option.bind_some, Option.bind_some]
    exact own1 l h _ _ (madeF_len h _ _ _) (diffF_len h) _ 0 k _ (madeF_len h _ _ _) (by omega) rfl (by have := madeF_len h (List.replicate i 1) 3 1; omega)
  | d + 1, i, k, hi, hd, hk => by
    obtain ⟨k, rfl⟩ : ∃ n, k = n + 1 := ⟨k - 1, by omega⟩
    have hl := h.len
    unfold paliolaw13_AlgebraOwn.l0
    rw [if_pos (by omega), if_pos (by rw [List.length_replicate]; omega), wrap_succ i (by omega)]
    have := own0 l h d (i + 1) k (by omega) (by omega) (by omega)
    rw [List.replicate_succ'] at this
    exact this
theorem own_true (l : List (List S36)) (h : ∀ x ∈ l, ∀ e ∈ x, W64 e.f1) : paliolaw13_AlgebraOwn.f 10000 l = some true := by
  have hs := few_small l true h
  unfold paliolaw13_AlgebraOwn.f
  rw [shown_true 10000 (by omega), Option.bind_some, few_ref l true 10000 (by omega), Option.bind_some, few_ref _ false 10000 (by omega), Option.bind_some, few_again hs]
  have := hs.len
  exact own0 _ hs (fewL l true).length 0 10000 (by omega) (by omega) (by omega)
end Go.Proofs.YtidhbpfkiapcjaaDoor.Pure
end
namespace Go.Proofs.YtidhbpfkiapcjaaDoor.P
open Go.RowKit Go.Lib Go.Proofs.YtidhbpfkiapcjaaDoorW.PrintWords Go.Proofs.YtidhbpfkiapcjaaDoorW.PrintLast Go.Proofs.YtidhbpfkiapcjaaDoorW.PrintMore
theorem own_calls (l : List (List S36)) (h : ∀ x ∈ l, ∀ e ∈ x, W64 e.f1) (A : Option Addr) (c : Nat) (hc : l.length ≤ c) (p q : Addr) (w : World) (hG : G2 p q w) (hC : Kd.C (Kd.slice 36 k36) w A l.length l) :
    Calls Tryd.prog 7 #[.slice A l.length c] w fun e w' => e = .returned (.bool true) ∧ Below w.heap.size w w' :=
  paliolaw13_AlgebraOwn.calls (p := p) (q := q) 10000 A c l true w hC hc hG (Pure.own_true l h)
end Go.Proofs.YtidhbpfkiapcjaaDoor.P
