/- What is made of one set, or of one set and an empty one, in plain words. Conditions: each theorem names its own. -/
import Derived.Test.YtidhbpfkiapcjaaDoorPureT
namespace Go.Proofs.YtidhbpfkiapcjaaDoor.Pure
open Go Go.RowKit Go.Proofs.YtidhbpfkiapcjaaDoorW.PrintWords Go.Proofs.YtidhbpfkiapcjaaDoorW.PrintLast Go.Proofs.YtidhbpfkiapcjaaDoorW.PrintMore Go.Proofs.YtidhbpfkiapcjaaDoor.P

/-- A list's entries as a table. -/
def ents (x : List S36) : List (ByteArray × Int) := x.map (fun e => (e.f0, e.f1))
theorem ents_apart {x : List S36} (h : ApartE x) : Apart (ents x) := by unfold ents Apart; rw [List.pairwise_map]; exact h
theorem ents_sortT (T : List (ByteArray × Int)) : (ents (sortT T)).Perm T := by
  unfold ents
  refine ((sortT_perm T).map _).trans ?_
  rw [List.map_map]
  exact List.Perm.of_eq (List.map_id T)
theorem sortT_ents (T : List (ByteArray × Int)) : sortT (ents (sortT T)) = sortT T := sortT_congr (ents_sortT T)
/-- A member of one set has at most one score there. -/
theorem occ_one (m : ByteArray) (i : Nat) : ∀ x : List S36, ApartE x → occ m (x.map (fun e => (i, e))) = (match getT (ents x) m with | some v => [(i, v)] | none => [])
  | [], _ => rfl
  | e :: r, h => by
    have h1 := List.pairwise_cons.1 h
    have ih := occ_one m i r h1.2
    by_cases hm : e.f0 = m
    · subst hm
      have hn : getT (ents r) e.f0 = none := by
        rw [get_none]
        intro p hp
        unfold ents at hp
        obtain ⟨e', he', rfl⟩ := List.mem_map.1 hp
        exact Ne.symm (h1.1 e' he')
      have hs : getT (ents (e :: r)) e.f0 = some e.f1 := by
        unfold getT ents
        simp
      rw [hn] at ih
      rw [hs, List.map_cons, occ_cons_same (p := (i, e)) rfl, ih]
    · have hs : getT (ents (e :: r)) m = getT (ents r) m := by
        unfold getT ents
        rw [List.map_cons, List.find?_cons, decide_eq_false hm]
      rw [hs, List.map_cons, occ_cons_other (p := (i, e)) hm, ih]
theorem occ_append (m : ByteArray) (a b : List (Nat × S36)) : occ m (a ++ b) = occ m a ++ occ m b := by unfold occ; rw [List.filter_append, List.map_append]
theorem stepm_one {ws : List Int} {agg : Int} {i : Nat} {v : Int} (hw : rd ws (i : Int) = 1) (hv : W64 v) : stepm ws agg none (i, v) = some (some v) := by
  unfold stepm
  rw [hw, mulG_one v hv, if_pos rfl]
/-- One set, of weight 1. -/
theorem made_one {T : List (ByteArray × Int)} (hT : Apart T) (hg : ∀ e ∈ sortT T, W64 e.f1) (l : List (List S36)) (ws : List Int) (agg : Int) (ha : agg = 1 ∨ agg = 2 ∨ agg = 3) (hp : pairs l = (sortT T).map (fun e => (0, e))) (hw : rd ws 0 = 1) (hb : setsB l = true) (hl : ws.length = l.length) :
    madeF l ws agg 1 = (sortT T, 0) := by
  have hap := sortT_apart hT
  have hf : ∀ m, foldm ws agg none (occ m (pairs l)) = some (getT (ents (sortT T)) m) := by
    intro m
    rw [hp, occ_one m 0 _ hap]
    cases e : getT (ents (sortT T)) m with
    | none => rfl
    | some v =>
      have hv : W64 v := by
        have hm := ((ents_apart hap).get m v).1 e
        unfold ents at hm
        obtain ⟨e', he', h2⟩ := List.mem_map.1 hm
        injection h2 with _ h3
        rw [← h3]
        exact hg e' he'
      show (stepm ws agg none (0, v)).bind _ = _
      rw [stepm_one (i := 0) hw hv]
      rfl
  have hc : ∀ m, (getT (cntT (pairs l)) m).getD 0 < 1 → getT (ents (sortT T)) m = none := by
    intro m h
    rw [cnt_occ, hp, occ_one m 0 _ hap] at h
    cases e : getT (ents (sortT T)) m with
    | none => rfl
    | some v => rw [e] at h; simp at h
  have hN : (wayN agg).isSome = true := by rcases ha with rfl | rfl | rfl <;> rfl
  cases e : foldM (cntT (pairs l)) 1 ws agg [] (pairs l) with
  | none =>
    obtain ⟨m, _, h2⟩ := foldM_bad _ _ _ _ _ _ e
    rw [show getT [] m = none from rfl, hf m] at h2
    cases h2
  | some T' =>
    obtain ⟨a1, a2⟩ := foldM_some _ _ _ _ _ _ _ List.Pairwise.nil e
    rw [madeF_some hb hN hl e]
    have hperm : T'.Perm (ents (sortT T)) := perm_of_get a1 (ents_apart hap) (fun m => by
      by_cases hl1 : (getT (cntT (pairs l)) m).getD 0 < 1
      · rw [(a2 m).2 hl1, hc m hl1]; rfl
      · have := (a2 m).1 hl1
        rw [show getT [] m = none from rfl, hf m] at this
        exact (Option.some.inj this).symm)
    rw [sortT_congr hperm, sortT_ents]
theorem delS_zero : ∀ (x : List S36) (T : List (ByteArray × Int)), (x.map (fun e => ((0 : Nat), e))).foldl delS T = T
  | [], _ => rfl
  | e :: r, T => by rw [List.map_cons, List.foldl_cons]; exact delS_zero r T
theorem diff_one {T : List (ByteArray × Int)} (hT : Apart T) (l : List (List S36)) (h0 : l.getD 0 [] = sortT T) (hp : pairs l = (sortT T).map (fun e => (0, e))) (hb : setsB l = true) : diffF l = (sortT T, 0) := by
  unfold diffF leftT
  rw [if_pos hb, hp, delS_zero, h0]
  have := tabT_perm (sortT_apart hT)
  rw [sortT_congr this, show ((sortT T).map fun e => (e.f0, e.f1)) = ents (sortT T) from rfl, sortT_ents]
/-- In two sets, where no entry comes twice. -/
theorem made_none {T : List (ByteArray × Int)} (hT : Apart T) (l : List (List S36)) (ws : List Int) (agg : Int) (ha : agg = 1 ∨ agg = 2 ∨ agg = 3) (hp : pairs l = (sortT T).map (fun e => (0, e))) (hb : setsB l = true) (hl : ws.length = l.length) :
    madeF l ws agg 2 = ([], 0) := by
  have hap := sortT_apart hT
  have hc : ∀ m, (getT (cntT (pairs l)) m).getD 0 < 2 := by
    intro m
    rw [cnt_occ, hp, occ_one m 0 _ hap]
    cases getT (ents (sortT T)) m <;> simp
  have hN : (wayN agg).isSome = true := by rcases ha with rfl | rfl | rfl <;> rfl
  cases e : foldM (cntT (pairs l)) 2 ws agg [] (pairs l) with
  | none =>
    obtain ⟨m, h1, _⟩ := foldM_bad _ _ _ _ _ _ e
    exact absurd (hc m) h1
  | some T' =>
    obtain ⟨a1, a2⟩ := foldM_some _ _ _ _ _ _ _ List.Pairwise.nil e
    rw [madeF_some hb hN hl e]
    have hperm : T'.Perm [] := perm_of_get a1 List.Pairwise.nil (fun m => (a2 m).2 (hc m))
    rw [hperm.eq_nil]
    rw [show sortT [] = [] from List.eq_nil_of_length_eq_zero (by rw [sortT_len]; rfl)]
theorem pairs_single (x : List S36) : pairs [x] = x.map (fun e => (0, e)) := by unfold pairs pairsF pairsF; simp
theorem pairs_empty (x : List S36) : pairs [x, []] = x.map (fun e => (0, e)) := by unfold pairs pairsF pairsF pairsF; simp
end Go.Proofs.YtidhbpfkiapcjaaDoor.Pure
