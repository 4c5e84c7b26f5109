/- The law AlgebraTurns: in plain words it answers true; a call of it answers true. Conditions: that the package's two errors lie as the program lays them. -/
import Derived.Test.YtidhbpfkiapcjaaDoorPureT
import Derived.Test.YtidhbpfkiapcjaaDoorPy3T
section
namespace Go.Proofs.YtidhbpfkiapcjaaDoor.Pure
open Go Go.RowKit Go.Proofs.YtidhbpfkiapcjaaDoorW.PrintWords Go.Proofs.YtidhbpfkiapcjaaDoorW.PrintLast Go.Proofs.YtidhbpfkiapcjaaDoorW.PrintMore Go.Proofs.YtidhbpfkiapcjaaDoor.P

theorem pairsF_snd : ∀ (l : List (List S36)) (i : Nat), (pairsF i l).map (·.2) = l.flatten
  | [], _ => rfl
  | x :: r, i => by
    unfold pairsF
    rw [List.map_append, pairsF_snd r (i + 1), List.flatten_cons, List.map_map]
    congr 1
    exact List.map_id x
/-- A member's scores. -/
def scs (m : ByteArray) (l : List (List S36)) : List Int := (l.flatten.filter (fun e => decide (e.f0 = m))).map (·.f1)
theorem occ_scs (m : ByteArray) (l : List (List S36)) : (occ m (pairs l)).map (·.2) = scs m l := by
  unfold occ scs pairs
  rw [← pairsF_snd l 0, List.filter_map, List.map_map, List.map_map]
  rfl
theorem scs_rev (m : ByteArray) (l : List (List S36)) : (scs m l.reverse).Perm (scs m l) := ((List.reverse_perm l).flatten.filter _).map _
theorem occ_len (m : ByteArray) (l : List (List S36)) : (occ m (pairs l)).length = (scs m l).length := by rw [← occ_scs, List.length_map]
def opO (agg : Int) (o : Option Int) (a : Int) : Option Int := some (match o with | some old => opG agg old a | none => a)
theorem foldm_scs {l : List (List S36)} (hs : Small l) (agg : Int) (h : agg = 2 ∨ agg = 3) (m : ByteArray) : foldm (List.replicate l.length 1) agg none (occ m (pairs l)) = some ((scs m l).foldl (opO agg) none) := by
  rw [foldm_ones l.length agg h _ _ (occ_good hs m), ← occ_scs, List.foldl_map]
  rfl
theorem opG_comm (agg : Int) (h : agg = 2 ∨ agg = 3) (a b : Int) : opG agg a b = opG agg b a := by
  unfold opG wayG
  rcases h with rfl | rfl
  · show mn a b = mn b a
    unfold mn; split <;> split <;> omega
  · show mx a b = mx b a
    unfold mx; split <;> split <;> omega
theorem opG_swap (agg : Int) (h : agg = 2 ∨ agg = 3) (z a b : Int) : opG agg (opG agg z a) b = opG agg (opG agg z b) a := by
  unfold opG wayG
  rcases h with rfl | rfl
  · show mn (mn z a) b = mn (mn z b) a
    unfold mn; repeat' split
    all_goals omega
  · show mx (mx z a) b = mx (mx z b) a
    unfold mx; repeat' split
    all_goals omega
theorem foldl_perm (agg : Int) (h : agg = 2 ∨ agg = 3) {s s' : List Int} (hp : s.Perm s') : s.foldl (opO agg) none = s'.foldl (opO agg) none := by
  refine hp.foldl_eq' (fun a _ b _ z => ?_) none
  cases z with
  | none => show some (opG agg a b) = some (opG agg b a); rw [opG_comm agg h]
  | some z => show some (opG agg (opG agg z a) b) = some (opG agg (opG agg z b) a); rw [opG_swap agg h]
theorem small_rev {l : List (List S36)} (h : Small l) : Small l.reverse := ⟨by rw [List.length_reverse]; exact h.len, fun x hx => h.each x (List.mem_reverse.1 hx)⟩
theorem turn_eq {l : List (List S36)} (hs : Small l) (hr : ∀ x ∈ l, rightB x = true) (agg least : Int) (h : agg = 2 ∨ agg = 3) : madeF l.reverse (List.replicate l.length 1) agg least = madeF l (List.replicate l.length 1) agg least ∧ ((madeF l (List.replicate l.length 1) agg least).2 = 0 ↔ 0 < l.length) := by
  rcases Nat.eq_zero_or_pos l.length with h0 | h0
  · obtain rfl := List.eq_nil_of_length_eq_zero h0
    have hb0 : madeF [] (List.replicate 0 1) agg least = ([], 120) := by
      unfold madeF
      rw [if_neg (fun h => by have := h.1; revert this; decide)]
    refine ⟨rfl, ?_⟩
    show (madeF [] (List.replicate 0 1) agg least).2 = 0 ↔ 0 < 0
    rw [hb0]
    exact ⟨fun h => absurd h (by decide), fun h => absurd h (by decide)⟩
  · have hb := setsB_right h0 hr
    have hb2 := setsB_right (l := l.reverse) (by rw [List.length_reverse]; exact h0) (fun x hx => hr x (List.mem_reverse.1 hx))
    obtain ⟨T, hT⟩ := ones_some hs agg least h
    obtain ⟨T', hT'⟩ := ones_some (small_rev hs) agg least h
    obtain ⟨a1, a2⟩ := foldM_some _ _ _ _ _ _ _ List.Pairwise.nil hT
    obtain ⟨b1, b2⟩ := foldM_some _ _ _ _ _ _ _ List.Pairwise.nil hT'
    have hw : (wayN agg).isSome = true := by rcases h with rfl | rfl <;> rfl
    rw [List.length_reverse] at hT' b2
    rw [madeF_some hb hw List.length_replicate hT, madeF_some hb2 hw (by rw [List.length_replicate, List.length_reverse]) hT']
    refine ⟨?_, ⟨fun _ => h0, fun _ => rfl⟩⟩
    rw [sortT_congr (perm_of_get b1 a1 (fun m => ?_))]
    have hc : (getT (cntT (pairs l.reverse)) m).getD 0 = (getT (cntT (pairs l)) m).getD 0 := by rw [cnt_occ, cnt_occ, occ_len, occ_len, (scs_rev m l).length_eq]
    by_cases hl : (getT (cntT (pairs l)) m).getD 0 < least
    · rw [(a2 m).2 hl, (b2 m).2 (by rw [hc]; exact hl)]
    · have e1 := (a2 m).1 hl
      have e2 := (b2 m).1 (by rw [hc]; exact hl)
      have f2 := foldm_scs (small_rev hs) agg h m
      rw [List.length_reverse] at f2
      rw [show getT [] m = none from rfl, foldm_scs hs agg h m] at e1
      rw [show getT [] m = none from rfl, f2, foldl_perm agg h (scs_rev m l)] at e2
      rw [e1] at e2
      exact (Option.some.inj e2).symm
theorem turns_loop (l : List (List S36)) (hs : Small l) (hr : ∀ x ∈ l, rightB x = true) (agg : Int) (h : agg = 2 ∨ agg = 3) : ∀ (i k : Nat), i ≤ l.length → i + 1100 < k → paliolaw13_AlgebraTurns.l0 k l true agg ((l.drop i).reverse) (List.replicate (l.length - i) 1) ((i : Int) - 1) = some true
  | 0, k, hi, hk => by
    obtain ⟨k, rfl⟩ : ∃ n, k = n + 1 := ⟨k - 1, by omega⟩
    have hl := hs.len
    have ho := okL_small hs
    have ho2 := okL_small (small_rev hs)
    obtain ⟨u1, u2⟩ := turn_eq hs hr agg 1 h
    obtain ⟨i1, i2⟩ := turn_eq hs hr agg (leastI l) h
    have hli : leastI l.reverse = leastI l := by unfold leastI; rw [List.length_reverse]
    have hw := okW_ones l.length hl agg (.inr h)
    have lenU := madeF_len hs (List.replicate l.length 1) agg 1
    have lenI := madeF_len hs (List.replicate l.length 1) agg (leastI l)
    unfold paliolaw13_AlgebraTurns.l0
    rw [if_neg (by omega), List.drop_zero, Nat.sub_zero]
    unfold algebra_Union.f algebra_Inter.f
    rw [ho, ho2, hw, Bool.and_self, if_pos rfl, if_pos rfl, if_pos rfl, if_pos rfl, Option.bind_some, Option.bind_some, Option.bind_some, Option.bind_some, hli, u1, i1, if_pos rfl]
    rw [same_ref _ _ (by omega) k (by omega), Option.bind_some, decide_eq_true rfl, if_pos rfl, if_pos rfl, same_ref _ _ (by omega) k (by omega), Option.bind_some, decide_eq_true rfl, if_pos rfl, if_pos rfl]
    have hfin : ((madeF l (List.replicate l.length 1) agg 1).2 == 0) = decide ((l.length : Int) > 0) := by
      rw [Bool.eq_iff_iff, beq_iff_eq, decide_eq_true_eq, u2]
      constructor <;> intro h <;> omega
    rw [hfin, beq_self_eq_true]
  | i + 1, k, hi, hk => by
    obtain ⟨k, rfl⟩ : ∃ n, k = n + 1 := ⟨k - 1, by omega⟩
    have hl := hs.len
    have hil : i < l.length := by omega
    have ih := turns_loop l hs hr agg h i k (by omega) (by omega)
    have e1 : (l.drop i).reverse = (l.drop (i + 1)).reverse ++ [l[i]] := by rw [List.drop_eq_getElem_cons hil, List.reverse_cons]
    have e2 : List.replicate (l.length - i) (1 : Int) = List.replicate (l.length - (i + 1)) 1 ++ [1] := by rw [← List.replicate_succ', show l.length - (i + 1) + 1 = l.length - i by omega]
    rw [e1, e2] at ih
    have e3 : ((i + 1 : Nat) : Int) - 1 = (i : Int) := by omega
    have e4 : wrap64 ((i : Int) - 1) = (i : Int) - 1 := by unfold wrap64; omega
    unfold paliolaw13_AlgebraTurns.l0
    rw [e3, if_pos (by omega), if_pos (by omega), if_pos (by omega), if_pos (by rw [List.length_reverse, List.length_drop]; omega), if_pos (by rw [List.length_replicate]; omega), rd3_get hil, e4]
    exact ih
theorem turns_true (l : List (List S36)) (g : Bool) (h : ∀ x ∈ l, ∀ e ∈ x, W64 e.f1) : paliolaw13_AlgebraTurns.f 10000 l g = some true := by
  have hs := few_small l true h
  have hr : ∀ x ∈ fewL l true, rightB x = true := fun x hx => by
    obtain ⟨T, hT, rfl⟩ := few_right l x hx
    exact rightB_sortT hT
  have hl := hs.len
  have key : ∀ agg : Int, agg = 2 ∨ agg = 3 → paliolaw13_AlgebraTurns.j0 10000 (fewL l true) true agg = some true := fun agg ha => by
    have := turns_loop (fewL l true) hs hr agg ha (fewL l true).length 9999 (Nat.le_refl _) (by omega)
    rw [List.drop_length, Nat.sub_self] at this
    show paliolaw13_AlgebraTurns.l0 9999 _ _ _ _ _ _ = _
    rw [show wrap64 (((fewL l true).length : Int) - 1) = ((fewL l true).length : Int) - 1 by unfold wrap64; omega]
    exact this
  unfold paliolaw13_AlgebraTurns.f
  rw [shown_true 10000 (by omega), Option.bind_some, few_ref l true 10000 (by omega), Option.bind_some]
  cases g
  · rw [if_neg (by simp)]; exact key 2 (.inl rfl)
  · rw [if_pos rfl]; exact key 3 (.inr rfl)
end Go.Proofs.YtidhbpfkiapcjaaDoor.Pure
end
namespace Go.Proofs.YtidhbpfkiapcjaaDoor.P
open Go.RowKit Go.Lib Go.Proofs.YtidhbpfkiapcjaaDoorW.PrintWords Go.Proofs.YtidhbpfkiapcjaaDoorW.PrintLast Go.Proofs.YtidhbpfkiapcjaaDoorW.PrintMore
theorem turns_calls (l : List (List S36)) (g : Bool) (h : ∀ x ∈ l, ∀ e ∈ x, W64 e.f1) (A : Option Addr) (c : Nat) (hc : l.length ≤ c) (p q : Addr) (w : World) (hG : G2 p q w) (hC : Kd.C (Kd.slice 36 k36) w A l.length l) :
    Calls Tryd.prog 4 #[.slice A l.length c, .bool g] w fun e w' => e = .returned (.bool true) ∧ Below w.heap.size w w' :=
  paliolaw13_AlgebraTurns.callsT (p := p) (q := q) 10000 A c l g true rfl w hC hc hG (Pure.turns_true l g h)
end Go.Proofs.YtidhbpfkiapcjaaDoor.P
