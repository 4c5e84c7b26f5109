/- The making of sets, member by member: what stands at a member in the end is what its scores, set by set, are put together to. Conditions: each theorem names its own. -/
import Derived.Test.YtidhbpfkiapcjaaDoorMG
namespace Go.Proofs.YtidhbpfkiapcjaaDoor.Pure
open Go Go.RowKit Go.Proofs.YtidhbpfkiapcjaaDoorW.PrintWords Go.Proofs.YtidhbpfkiapcjaaDoorW.PrintLast Go.Proofs.YtidhbpfkiapcjaaDoorW.PrintMore Go.Proofs.YtidhbpfkiapcjaaDoor.P

/-- A member's scores, with their sets' numbers. -/
def occ (m : ByteArray) (ps : List (Nat × S36)) : List (Nat × Int) := (ps.filter (fun p => decide (p.2.f0 = m))).map (fun p => (p.1, p.2.f1))
def stepm (ws : List Int) (agg : Int) (o : Option Int) (q : Nat × Int) : Option (Option Int) :=
  if (mulG q.2 (rd ws q.1)).2 = 0 then
    (match o with
      | some old => if (wayG agg old (mulG q.2 (rd ws q.1)).1).2 = 0 then some (some (wayG agg old (mulG q.2 (rd ws q.1)).1).1) else none
      | none => some (some (mulG q.2 (rd ws q.1)).1))
  else none
def foldm (ws : List Int) (agg : Int) : Option Int → List (Nat × Int) → Option (Option Int)
  | o, [] => some o
  | o, q :: r => (stepm ws agg o q).bind fun o' => foldm ws agg o' r
theorem occ_cons_same {m : ByteArray} {p : Nat × S36} (h : p.2.f0 = m) (ps : List (Nat × S36)) : occ m (p :: ps) = (p.1, p.2.f1) :: occ m ps := by
  unfold occ
  rw [List.filter_cons, if_pos (by simp [h])]
  rfl
theorem occ_cons_other {m : ByteArray} {p : Nat × S36} (h : p.2.f0 ≠ m) (ps : List (Nat × S36)) : occ m (p :: ps) = occ m ps := by
  unfold occ
  rw [List.filter_cons, if_neg (by simp [h])]
theorem stepM_low {cnt : List (ByteArray × Int)} {least : Int} {ws : List Int} {agg : Int} {T : List (ByteArray × Int)} {p : Nat × S36} (h : (getT cnt p.2.f0).getD 0 < least) : stepM cnt least ws agg T p = some T := by unfold stepM; rw [if_pos h]
theorem stepM_high {cnt : List (ByteArray × Int)} {least : Int} {ws : List Int} {agg : Int} {T : List (ByteArray × Int)} {p : Nat × S36} (h : ¬ (getT cnt p.2.f0).getD 0 < least) : stepM cnt least ws agg T p = (stepm ws agg (getT T p.2.f0) (p.1, p.2.f1)).bind fun o => o.map fun v => putT T p.2.f0 v := by
  unfold stepM stepm
  rw [if_neg h]
  by_cases h1 : (mulG p.2.f1 (rd ws p.1)).2 = 0
  · rw [if_pos h1, if_pos h1]
    cases getT T p.2.f0 with
    | none => rfl
    | some old =>
      by_cases h2 : (wayG agg old (mulG p.2.f1 (rd ws p.1)).1).2 = 0
      · simp only [if_pos h2]; rfl
      · simp only [if_neg h2]; rfl
  · rw [if_neg h1, if_neg h1]; rfl
theorem stepm_isSome {ws : List Int} {agg : Int} {o : Option Int} {q : Nat × Int} {o' : Option Int} (h : stepm ws agg o q = some o') : o'.isSome = true := by
  unfold stepm at h
  repeat' split at h
  all_goals first | (cases h; rfl) | cases h
/-- Where all goes well. -/
theorem foldM_some (cnt : List (ByteArray × Int)) (least : Int) (ws : List Int) (agg : Int) : ∀ (ps : List (Nat × S36)) (T T' : List (ByteArray × Int)), Apart T → foldM cnt least ws agg T ps = some T' →
    Apart T' ∧ ∀ m, (¬ (getT cnt m).getD 0 < least → foldm ws agg (getT T m) (occ m ps) = some (getT T' m)) ∧ ((getT cnt m).getD 0 < least → getT T' m = getT T m)
  | [], T, T', ha, h => by
    cases h
    exact ⟨ha, fun m => ⟨fun _ => rfl, fun _ => rfl⟩⟩
  | p :: ps, T, T', ha, h => by
    rw [foldM] at h
    obtain ⟨T1, h1, h2⟩ := Option.bind_eq_some_iff.1 h
    by_cases hl : (getT cnt p.2.f0).getD 0 < least
    · rw [stepM_low hl] at h1
      cases h1
      obtain ⟨i1, i2⟩ := foldM_some cnt least ws agg ps T T' ha h2
      refine ⟨i1, fun m => ⟨fun hm => ?_, (i2 m).2⟩⟩
      rw [occ_cons_other (fun e => hm (by rw [← e]; exact hl))]
      exact (i2 m).1 hm
    · rw [stepM_high hl] at h1
      obtain ⟨o, ho, h3⟩ := Option.bind_eq_some_iff.1 h1
      obtain ⟨v, rfl⟩ := Option.isSome_iff_exists.1 (stepm_isSome ho)
      cases h3
      obtain ⟨i1, i2⟩ := foldM_some cnt least ws agg ps _ T' (ha.put _ _) h2
      refine ⟨i1, fun m => ?_⟩
      by_cases hm : p.2.f0 = m
      · subst hm
        refine ⟨fun _ => ?_, fun hc => absurd hc hl⟩
        rw [occ_cons_same rfl, foldm, ho]
        have := (i2 p.2.f0).1 hl
        rw [get_put_same] at this
        exact this
      · have hg := get_put_other T p.2.f0 v (Ne.symm hm)
        rw [occ_cons_other hm]
        have := i2 m
        rw [hg] at this
        exact this
/-- Where something is too great. -/
theorem foldM_bad (cnt : List (ByteArray × Int)) (least : Int) (ws : List Int) (agg : Int) : ∀ (ps : List (Nat × S36)) (T : List (ByteArray × Int)), foldM cnt least ws agg T ps = none → ∃ m, ¬ (getT cnt m).getD 0 < least ∧ foldm ws agg (getT T m) (occ m ps) = none
  | [], T, h => by cases h
  | p :: ps, T, h => by
    rw [foldM] at h
    by_cases hl : (getT cnt p.2.f0).getD 0 < least
    · rw [stepM_low hl] at h
      obtain ⟨m, h1, h2⟩ := foldM_bad cnt least ws agg ps T h
      exact ⟨m, h1, by rw [occ_cons_other (fun e => h1 (by rw [← e]; exact hl))]; exact h2⟩
    · rw [stepM_high hl] at h
      cases ho : stepm ws agg (getT T p.2.f0) (p.1, p.2.f1) with
      | none => exact ⟨p.2.f0, hl, by rw [occ_cons_same rfl, foldm, ho]; rfl⟩
      | some o =>
        obtain ⟨v, rfl⟩ := Option.isSome_iff_exists.1 (stepm_isSome ho)
        rw [ho] at h
        obtain ⟨m, h1, h2⟩ := foldM_bad cnt least ws agg ps _ h
        refine ⟨m, h1, ?_⟩
        by_cases hm : p.2.f0 = m
        · subst hm
          rw [get_put_same] at h2
          rw [occ_cons_same rfl, foldm, ho]
          exact h2
        · rw [get_put_other T p.2.f0 v (Ne.symm hm)] at h2
          rw [occ_cons_other hm]
          exact h2
/-- How often a member has come. -/
theorem cnt_occ (m : ByteArray) (ps : List (Nat × S36)) : (getT (cntT ps) m).getD 0 = ((occ m ps).length : Int) := by
  rw [← List.reverse_reverse ps]
  generalize ps.reverse = r
  induction r with
  | nil => rfl
  | cons p r ih =>
    rw [List.reverse_cons, cntT_snoc]
    have ho : occ m (r.reverse ++ [p]) = occ m r.reverse ++ occ m [p] := by unfold occ; rw [List.filter_append, List.map_append]
    rw [ho, List.length_append]
    unfold cntS
    by_cases hm : p.2.f0 = m
    · subst hm
      rw [get_put_same, ih, occ_cons_same rfl]
      show ((occ p.2.f0 r.reverse).length : Int) + 1 = _
      simp [occ]
    · rw [get_put_other _ _ _ (Ne.symm hm), ih, occ_cons_other hm]
      simp [occ]
theorem apart_nodup {T : List (ByteArray × Int)} (h : Apart T) : T.Nodup := h.imp (fun hne e => hne (by rw [e]))
theorem perm_of_get {T T' : List (ByteArray × Int)} (h : Apart T) (h' : Apart T') (hg : ∀ m, getT T m = getT T' m) : T.Perm T' := by
  refine (List.perm_ext_iff_of_nodup (apart_nodup h) (apart_nodup h')).2 (fun p => ?_)
  rw [show p = (p.1, p.2) from rfl, ← h.get, ← h'.get, hg]
/-! Weights that are all 1. -/
theorem mulG_one (a : Int) (h : W64 a) : mulG a 1 = (a, 0) := by
  obtain ⟨h1, h2⟩ := wf64 h
  have hw : wrap64 (a * 1) = a := by unfold wrap64; omega
  have hm := mulG_some a 1
  unfold ints_Mul.f at hm
  have hw2 : wrap64 a = a := by unfold wrap64; omega
  rw [hw, show Int.tdiv a 1 = a from Int.tdiv_one a, hw2] at hm
  by_cases h0 : a = 0
  · subst h0
    rw [if_pos rfl] at hm
    exact (Option.some.inj hm).symm
  · rw [if_neg h0, if_neg (by decide), if_pos rfl] at hm
    by_cases h3 : a = -1
    · subst h3
      simpa [checked_some] using hm.symm
    · rw [if_neg h3, if_neg (by decide)] at hm
      simp only [checked_some] at hm
      simpa using hm.symm
theorem rd_ones (n i : Nat) (h : i < n) : rd (List.replicate n 1) (i : Int) = 1 := by
  unfold rd
  rw [Int.toNat_natCast, List.getD_eq_getElem?_getD, List.getElem?_replicate, if_pos h]
  rfl
/-- What scores come to, one by one, by the greatest or the least. -/
def opG (agg a b : Int) : Int := (wayG agg a b).1
theorem wayG_ok (agg : Int) (h : agg = 2 ∨ agg = 3) (a b : Int) : wayG agg a b = (opG agg a b, 0) := by
  unfold opG wayG
  rcases h with rfl | rfl
  · rfl
  · rfl
theorem foldm_ones (n : Nat) (agg : Int) (h : agg = 2 ∨ agg = 3) : ∀ (qs : List (Nat × Int)) (o : Option Int), (∀ q ∈ qs, q.1 < n ∧ W64 q.2) → foldm (List.replicate n 1) agg o qs = some (qs.foldl (fun o q => some (match o with | some old => opG agg old q.2 | none => q.2)) o)
  | [], o, _ => rfl
  | q :: r, o, hq => by
    obtain ⟨h1, h2⟩ := hq q List.mem_cons_self
    have hs : stepm (List.replicate n 1) agg o q = some (some (match o with | some old => opG agg old q.2 | none => q.2)) := by
      unfold stepm
      rw [rd_ones n q.1 h1, mulG_one _ h2, if_pos rfl]
      cases o with
      | none => rfl
      | some old => simp [wayG_ok agg h]
    rw [foldm, hs, Option.bind_some, foldm_ones n agg h r _ (fun q hq' => hq q (List.mem_cons_of_mem _ hq')), List.foldl_cons]
theorem mem_occ {m : ByteArray} {ps : List (Nat × S36)} {q : Nat × Int} (h : q ∈ occ m ps) : ∃ p ∈ ps, p.2.f0 = m ∧ q = (p.1, p.2.f1) := by
  unfold occ at h
  obtain ⟨p, hp, rfl⟩ := List.mem_map.1 h
  obtain ⟨h1, h2⟩ := List.mem_filter.1 hp
  exact ⟨p, h1, by simpa using h2, rfl⟩
theorem occ_good {l : List (List S36)} (hs : Small l) (m : ByteArray) : ∀ q ∈ occ m (pairs l), q.1 < l.length ∧ W64 q.2 := by
  intro q hq
  obtain ⟨p, hp, _, rfl⟩ := mem_occ hq
  obtain ⟨x, hx, he⟩ := mem_pairsF l 0 p hp
  have := pairsF_lt l 0 p hp
  exact ⟨by show p.1 < _; omega, ((hs.each x hx).2 _ he).2⟩
/-- With weights of 1, by the greatest or the least, nothing is too great. -/
theorem ones_some {l : List (List S36)} (hs : Small l) (agg least : Int) (h : agg = 2 ∨ agg = 3) : ∃ T, foldM (cntT (pairs l)) least (List.replicate l.length 1) agg [] (pairs l) = some T := by
  cases e : foldM (cntT (pairs l)) least (List.replicate l.length 1) agg [] (pairs l) with
  | some T => exact ⟨T, rfl⟩
  | none =>
    obtain ⟨m, _, h2⟩ := foldM_bad _ _ _ _ _ _ e
    rw [foldm_ones l.length agg h _ _ (occ_good hs m)] at h2
    cases h2
end Go.Proofs.YtidhbpfkiapcjaaDoor.Pure
