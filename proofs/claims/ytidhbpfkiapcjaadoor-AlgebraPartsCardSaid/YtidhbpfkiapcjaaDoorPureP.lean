/- The union, the intersection and the two differences of two sets, in plain words. Conditions: each theorem names its own. -/
import Derived.Test.YtidhbpfkiapcjaaDoorPureD
namespace Go.Proofs.YtidhbpfkiapcjaaDoor.Pure
open Go Go.RowKit Go.Proofs.YtidhbpfkiapcjaaDoorW.PrintWords Go.Proofs.YtidhbpfkiapcjaaDoorW.PrintLast Go.Proofs.YtidhbpfkiapcjaaDoorW.PrintMore Go.Proofs.YtidhbpfkiapcjaaDoor.P

/-- Is a member in a table? -/
def hasT (T : List (ByteArray × Int)) (m : ByteArray) : Bool := (getT T m).isSome
theorem hasT_key {T : List (ByteArray × Int)} {m : ByteArray} : hasT T m = true ↔ m ∈ T.map (·.1) := by
  unfold hasT
  rw [List.mem_map]
  constructor
  · intro h
    obtain ⟨v, hv⟩ := Option.isSome_iff_exists.1 h
    unfold getT at hv
    obtain ⟨p, hp, _⟩ := Option.map_eq_some_iff.1 hv
    exact ⟨p, List.mem_of_find?_eq_some hp, by have := List.find?_some hp; simpa using this⟩
  · rintro ⟨p, hp, rfl⟩
    cases e : getT T p.1 with
    | some v => rfl
    | none => exact absurd rfl (get_none p.1 |>.1 e p hp)
theorem findI_sortT (T : List (ByteArray × Int)) (m : ByteArray) : (findI (sortT T) m).isSome = hasT T m := by
  rw [Bool.eq_iff_iff, hasT_key]
  constructor
  · intro h
    obtain ⟨i, hi⟩ := Option.isSome_iff_exists.1 h
    obtain ⟨hlt, hm⟩ := findI_some hi
    have := mem_sortT.1 (List.getElem_mem hlt)
    exact List.mem_map.2 ⟨_, this, hm⟩
  · intro h
    obtain ⟨p, hp, rfl⟩ := List.mem_map.1 h
    cases e : findI (sortT T) p.1 with
    | some i => rfl
    | none => exact absurd rfl (findI_none.1 e ⟨p.1, p.2⟩ (mem_sortT.2 hp))
theorem hasT_ents {T : List (ByteArray × Int)} (hT : Apart T) (m : ByteArray) : hasT (ents (sortT T)) m = hasT T m := by
  unfold hasT
  rw [hT.get_perm (ents_sortT T)]
theorem keys_nodup {T : List (ByteArray × Int)} (h : Apart T) : (T.map (·.1)).Nodup := by
  unfold List.Nodup
  rw [List.pairwise_map]
  exact h
theorem pairs_two (x y : List S36) : pairs [x, y] = x.map (fun e => (0, e)) ++ y.map (fun e => (1, e)) := by unfold pairs pairsF pairsF pairsF; simp
theorem occ_two {X Y : List (ByteArray × Int)} (hX : Apart X) (hY : Apart Y) (m : ByteArray) : (occ m (pairs [sortT X, sortT Y])).length = (hasT X m).toNat + (hasT Y m).toNat := by
  rw [pairs_two, occ_append, List.length_append, occ_one m 0 _ (sortT_apart hX), occ_one m 1 _ (sortT_apart hY), ← hasT_ents hX m, ← hasT_ents hY m]
  unfold hasT
  cases getT (ents (sortT X)) m <;> cases getT (ents (sortT Y)) m <;> rfl
/-- What is made of two sets with weights of 1, by the greatest. -/
theorem made_two {X Y : List (ByteArray × Int)} (hX : Apart X) (hY : Apart Y) (hs : Small [sortT X, sortT Y]) (least : Int) : ∃ T, Apart T ∧ madeF [sortT X, sortT Y] (List.replicate 2 1) 3 least = (sortT T, 0) ∧ ∀ m, hasT T m = decide (least ≤ ((hasT X m).toNat + (hasT Y m).toNat : Nat) ∧ 0 < (hasT X m).toNat + (hasT Y m).toNat) := by
  have hb : setsB [sortT X, sortT Y] = true := setsB_right (by simp) (fun z hz => by
    rcases List.mem_cons.1 hz with rfl | hz
    · exact rightB_sortT hX
    · rw [List.mem_singleton.1 hz]; exact rightB_sortT hY)
  obtain ⟨T, hT⟩ := ones_some hs 3 least (.inr rfl)
  obtain ⟨a1, a2⟩ := foldM_some _ _ _ _ _ _ _ List.Pairwise.nil hT
  refine ⟨T, a1, madeF_some hb rfl rfl hT, fun m => ?_⟩
  have hc : (getT (cntT (pairs [sortT X, sortT Y])) m).getD 0 = (((hasT X m).toNat + (hasT Y m).toNat : Nat) : Int) := by rw [cnt_occ, occ_two hX hY]
  have hl := occ_two hX hY m
  by_cases hlow : (getT (cntT (pairs [sortT X, sortT Y])) m).getD 0 < least
  · rw [decide_eq_false (by rw [hc] at hlow; omega)]
    unfold hasT
    rw [(a2 m).2 hlow]
    rfl
  · have hf := (a2 m).1 hlow
    rw [hc] at hlow
    rw [show getT [] m = none from rfl, show [sortT X, sortT Y].length = 2 from rfl] at hf
    have hg := occ_good hs m
    rw [show [sortT X, sortT Y].length = 2 from rfl] at hg
    rw [foldm_ones 2 3 (.inr rfl) _ _ hg] at hf
    have hf := Option.some.inj hf
    by_cases h0 : 0 < (hasT X m).toNat + (hasT Y m).toNat
    · rw [decide_eq_true ⟨by omega, h0⟩]
      unfold hasT
      rw [← hf]
      cases ho : occ m (pairs [sortT X, sortT Y]) with
      | nil => rw [ho] at hl; simp at hl; omega
      | cons q r =>
        rw [List.foldl_cons]
        have : ∀ (r : List (Nat × Int)) (o : Option Int), o.isSome = true → (r.foldl (fun o q => some (match o with | some old => opG 3 old q.2 | none => q.2)) o).isSome = true := by
          intro r
          induction r with
          | nil => intro o h; exact h
          | cons b r ih => intro o _; exact ih _ rfl
        exact this r _ rfl
    · rw [decide_eq_false (by omega)]
      have : occ m (pairs [sortT X, sortT Y]) = [] := List.eq_nil_of_length_eq_zero (by omega)
      unfold hasT
      rw [← hf, this]
      rfl
theorem del_fold (m : ByteArray) : ∀ (y : List S36) (T : List (ByteArray × Int)), Apart T → Apart ((y.map (fun e => ((1 : Nat), e))).foldl delS T) ∧ hasT ((y.map (fun e => ((1 : Nat), e))).foldl delS T) m = (hasT T m && !hasT (ents y) m)
  | [], T, h => ⟨h, by unfold ents; show hasT T m = (hasT T m && !false); simp⟩
  | e :: r, T, h => by
    rw [List.map_cons, List.foldl_cons]
    have hd : delS T (1, e) = delT T e.f0 := rfl
    rw [hd]
    obtain ⟨h1, h2⟩ := del_fold m r (delT T e.f0) (h.del _)
    refine ⟨h1, ?_⟩
    rw [h2]
    by_cases hm : e.f0 = m
    · subst hm
      have e1 : hasT (delT T e.f0) e.f0 = false := by unfold hasT; rw [get_del_same]; rfl
      have e2 : hasT (ents (e :: r)) e.f0 = true := by unfold hasT getT ents; simp
      rw [e1, e2]
      simp
    · have e1 : hasT (delT T e.f0) m = hasT T m := by unfold hasT; rw [get_del_other T (Ne.symm hm)]
      have e2 : hasT (ents (e :: r)) m = hasT (ents r) m := by unfold hasT getT ents; rw [List.map_cons, List.find?_cons, decide_eq_false hm]
      rw [e1, e2]
theorem diff_two {X Y : List (ByteArray × Int)} (hX : Apart X) (hY : Apart Y) : ∃ T, Apart T ∧ diffF [sortT X, sortT Y] = (sortT T, 0) ∧ ∀ m, hasT T m = (hasT X m && !hasT Y m) := by
  have hb : setsB [sortT X, sortT Y] = true := setsB_right (by simp) (fun z hz => by
    rcases List.mem_cons.1 hz with rfl | hz
    · exact rightB_sortT hX
    · rw [List.mem_singleton.1 hz]; exact rightB_sortT hY)
  have hp := tabT_perm (sortT_apart hX)
  have ht : ∀ m, hasT (tabT (sortT X)) m = hasT X m := fun m => by
    have : hasT (tabT (sortT X)) m = hasT (ents (sortT X)) m := by unfold hasT; rw [(ents_apart (sortT_apart hX)).get_perm hp]
    rw [this, hasT_ents hX]
  refine ⟨leftT [sortT X, sortT Y], ?_, by unfold diffF; rw [if_pos hb], fun m => ?_⟩
  · unfold leftT
    rw [pairs_two, List.foldl_append, delS_zero]
    exact (del_fold ⟨#[]⟩ _ _ (tabT_apart _)).1
  · unfold leftT
    rw [pairs_two, List.foldl_append, delS_zero]
    rw [(del_fold m _ _ (tabT_apart _)).2, hasT_ents hY]
    show (hasT (tabT (sortT X)) m && _) = _
    rw [ht m]
/-- The four of them. -/
theorem parts {X Y : List (ByteArray × Int)} (hX : Apart X) (hY : Apart Y) (hs : Small [sortT X, sortT Y]) : ∃ u i c d : List S36, madeF [sortT X, sortT Y] (List.replicate 2 1) 3 1 = (u, 0) ∧ madeF [sortT X, sortT Y] (List.replicate 2 1) 3 2 = (i, 0) ∧ diffF [sortT X, sortT Y] = (c, 0) ∧ diffF [sortT Y, sortT X] = (d, 0) ∧
    u.length = i.length + c.length + d.length ∧ ∀ e ∈ u, (findI i e.f0).isSome.toNat + (findI c e.f0).isSome.toNat + (findI d e.f0).isSome.toNat = 1 := by
  obtain ⟨TU, aU, eU, hU⟩ := made_two hX hY hs 1
  obtain ⟨TI, aI, eI, hI⟩ := made_two hX hY hs 2
  obtain ⟨TC, aC, eC, hC⟩ := diff_two hX hY
  obtain ⟨TD, aD, eD, hD⟩ := diff_two hY hX
  refine ⟨_, _, _, _, eU, eI, eC, eD, ?_, fun e he => ?_⟩
  · rw [sortT_len, sortT_len, sortT_len, sortT_len]
    have hn : (TI.map (·.1) ++ (TC.map (·.1) ++ TD.map (·.1))).Nodup := by
      rw [List.nodup_append]
      refine ⟨keys_nodup aI, ?_, ?_⟩
      · rw [List.nodup_append]
        refine ⟨keys_nodup aC, keys_nodup aD, ?_⟩
        rintro a ha b hb rfl
        have h1 := hasT_key.2 ha
        have h2 := hasT_key.2 hb
        rw [hC] at h1
        rw [hD] at h2
        cases hasT X a <;> cases hasT Y a <;> simp_all
      · rintro a ha b hb rfl
        have h1 := hasT_key.2 ha
        rw [hI] at h1
        have h1 := of_decide_eq_true h1
        rcases List.mem_append.1 hb with hb | hb
        · have h2 := hasT_key.2 hb
          rw [hC] at h2
          cases hx : hasT X a <;> cases hy : hasT Y a <;> simp [hx, hy] at h1 h2
        · have h2 := hasT_key.2 hb
          rw [hD] at h2
          cases hx : hasT X a <;> cases hy : hasT Y a <;> simp [hx, hy] at h1 h2
    have hp : (TU.map (·.1)).Perm (TI.map (·.1) ++ (TC.map (·.1) ++ TD.map (·.1))) := by
      refine (List.perm_ext_iff_of_nodup (keys_nodup aU) hn).2 (fun m => ?_)
      rw [List.mem_append, List.mem_append, ← hasT_key, ← hasT_key, ← hasT_key, ← hasT_key, hU, hI, hC, hD]
      cases hasT X m <;> cases hasT Y m <;> decide
    have := hp.length_eq
    simp only [List.length_append, List.length_map] at this
    omega
  · have hm : hasT TU e.f0 = true := hasT_key.2 (List.mem_map.2 ⟨_, mem_sortT.1 he, rfl⟩)
    rw [findI_sortT, findI_sortT, findI_sortT, hI, hC, hD]
    rw [hU] at hm
    cases hx : hasT X e.f0 <;> cases hy : hasT Y e.f0 <;> rw [hx, hy] at hm <;> revert hm <;> decide
end Go.Proofs.YtidhbpfkiapcjaaDoor.Pure
