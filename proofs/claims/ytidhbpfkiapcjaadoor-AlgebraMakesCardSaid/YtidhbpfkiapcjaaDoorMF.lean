/- The law AlgebraMakes in plain words, and its call. Conditions: each theorem names its own. -/
import Derived.Test.YtidhbpfkiapcjaaDoorMG
import Derived.Test.YtidhbpfkiapcjaaDoorPy5ra
import Derived.Test.YtidhbpfkiapcjaaDoorPy5a
import Derived.Test.YtidhbpfkiapcjaaDoorPy3M
namespace Go.Proofs.YtidhbpfkiapcjaaDoor.Pure
open Go Go.RowKit Go.Proofs.YtidhbpfkiapcjaaDoorW.PrintWords Go.Proofs.YtidhbpfkiapcjaaDoorW.PrintLast Go.Proofs.YtidhbpfkiapcjaaDoorW.PrintMore Go.Proofs.YtidhbpfkiapcjaaDoor.P

/-- A member's scores, with their sets' numbers. -/
def occ (m : ByteArray) (ps : List (Nat × S36)) : List (Nat × Int) := (ps.filter (fun p => decide (p.2.f0 = m))).map (fun p => (p.1, p.2.f1))
def stepm (ws : List Int) (agg : Int) (o : Option Int) (q : Nat × Int) : Option (Option Int) :=
  if (mulG q.2 (rd ws q.1)).2 = 0 then
    (match o with
      | some old => if (wayG agg old (mulG q.2 (rd ws q.1)).1).2 = 0 then some (some (wayG agg old (mulG q.2 (rd ws q.1)).1).1) else none
      | none => some (some (mulG q.2 (rd ws q.1)).1))
  else none
def foldm (ws : List Int) (agg : Int) : Option Int → List (Nat × Int) → Option (Option Int)
  | o, [] => some o
  | o, q :: r => (stepm ws agg o q).bind fun o' => foldm ws agg o' r
theorem occ_cons_same {m : ByteArray} {p : Nat × S36} (h : p.2.f0 = m) (ps : List (Nat × S36)) : occ m (p :: ps) = (p.1, p.2.f1) :: occ m ps := by
  unfold occ
  rw [List.filter_cons, if_pos (by simp [h])]
  rfl
theorem occ_cons_other {m : ByteArray} {p : Nat × S36} (h : p.2.f0 ≠ m) (ps : List (Nat × S36)) : occ m (p :: ps) = occ m ps := by
  unfold occ
  rw [List.filter_cons, if_neg (by simp [h])]
theorem stepM_low {cnt : List (ByteArray × Int)} {least : Int} {ws : List Int} {agg : Int} {T : List (ByteArray × Int)} {p : Nat × S36} (h : (getT cnt p.2.f0).getD 0 < least) : stepM cnt least ws agg T p = some T := by unfold stepM; rw [if_pos h]
theorem stepM_high {cnt : List (ByteArray × Int)} {least : Int} {ws : List Int} {agg : Int} {T : List (ByteArray × Int)} {p : Nat × S36} (h : ¬ (getT cnt p.2.f0).getD 0 < least) : stepM cnt least ws agg T p = (stepm ws agg (getT T p.2.f0) (p.1, p.2.f1)).bind fun o => o.map fun v => putT T p.2.f0 v := by
  unfold stepM stepm
  rw [if_neg h]
  by_cases h1 : (mulG p.2.f1 (rd ws p.1)).2 = 0
  · rw [if_pos h1, if_pos h1]
    cases getT T p.2.f0 with
    | none => rfl
    | some old =>
      by_cases h2 : (wayG agg old (mulG p.2.f1 (rd ws p.1)).1).2 = 0
      · simp only [if_pos h2]; rfl
      · simp only [if_neg h2]; rfl
  · rw [if_neg h1, if_neg h1]; rfl
theorem stepm_isSome {ws : List Int} {agg : Int} {o : Option Int} {q : Nat × Int} {o' : Option Int} (h : stepm ws agg o q = some o') : o'.isSome = true := by
  unfold stepm at h
  repeat' split at h
  all_goals first | (cases h; rfl) | cases h
/-- Where all goes well. -/
theorem foldM_some (cnt : List (ByteArray × Int)) (least : Int) (ws : List Int) (agg : Int) : ∀ (ps : List (Nat × S36)) (T T' : List (ByteArray × Int)), Apart T → foldM cnt least ws agg T ps = some T' →
    Apart T' ∧ ∀ m, (¬ (getT cnt m).getD 0 < least → foldm ws agg (getT T m) (occ m ps) = some (getT T' m)) ∧ ((getT cnt m).getD 0 < least → getT T' m = getT T m)
  | [], T, T', ha, h => by
    cases h
    exact ⟨ha, fun m => ⟨fun _ => rfl, fun _ => rfl⟩⟩
  | p :: ps, T, T', ha, h => by
    rw [foldM] at h
    obtain ⟨T1, h1, h2⟩ := Option.bind_eq_some_iff.1 h
    by_cases hl : (getT cnt p.2.f0).getD 0 < least
    · rw [stepM_low hl] at h1
      cases h1
      obtain ⟨i1, i2⟩ := foldM_some cnt least ws agg ps T T' ha h2
      refine ⟨i1, fun m => ⟨fun hm => ?_, (i2 m).2⟩⟩
      rw [occ_cons_other (fun e => hm (by rw [← e]; exact hl))]
      exact (i2 m).1 hm
    · rw [stepM_high hl] at h1
      obtain ⟨o, ho, h3⟩ := Option.bind_eq_some_iff.1 h1
      obtain ⟨v, rfl⟩ := Option.isSome_iff_exists.1 (stepm_isSome ho)
      cases h3
      obtain ⟨i1, i2⟩ := foldM_some cnt least ws agg ps _ T' (ha.put _ _) h2
      refine ⟨i1, fun m => ?_⟩
      by_cases hm : p.2.f0 = m
      · subst hm
        refine ⟨fun _ => ?_, fun hc => absurd hc hl⟩
        rw [occ_cons_same rfl, foldm, ho]
        have := (i2 p.2.f0).1 hl
        rw [get_put_same] at this
        exact this
      · have hg := get_put_other T p.2.f0 v (Ne.symm hm)
        rw [occ_cons_other hm]
        have := i2 m
        rw [hg] at this
        exact this
/-- Where something is too great. -/
theorem foldM_bad (cnt : List (ByteArray × Int)) (least : Int) (ws : List Int) (agg : Int) : ∀ (ps : List (Nat × S36)) (T : List (ByteArray × Int)), foldM cnt least ws agg T ps = none → ∃ m, ¬ (getT cnt m).getD 0 < least ∧ foldm ws agg (getT T m) (occ m ps) = none
  | [], T, h => by cases h
  | p :: ps, T, h => by
    rw [foldM] at h
    by_cases hl : (getT cnt p.2.f0).getD 0 < least
    · rw [stepM_low hl] at h
      obtain ⟨m, h1, h2⟩ := foldM_bad cnt least ws agg ps T h
      exact ⟨m, h1, by rw [occ_cons_other (fun e => h1 (by rw [← e]; exact hl))]; exact h2⟩
    · rw [stepM_high hl] at h
      cases ho : stepm ws agg (getT T p.2.f0) (p.1, p.2.f1) with
      | none => exact ⟨p.2.f0, hl, by rw [occ_cons_same rfl, foldm, ho]; rfl⟩
      | some o =>
        obtain ⟨v, rfl⟩ := Option.isSome_iff_exists.1 (stepm_isSome ho)
        rw [ho] at h
        obtain ⟨m, h1, h2⟩ := foldM_bad cnt least ws agg ps _ h
        refine ⟨m, h1, ?_⟩
        by_cases hm : p.2.f0 = m
        · subst hm
          rw [get_put_same] at h2
          rw [occ_cons_same rfl, foldm, ho]
          exact h2
        · rw [get_put_other T p.2.f0 v (Ne.symm hm)] at h2
          rw [occ_cons_other hm]
          exact h2
/-- How often a member has come. -/
theorem cnt_occ (m : ByteArray) (ps : List (Nat × S36)) : (getT (cntT ps) m).getD 0 = ((occ m ps).length : Int) := by
  rw [← List.reverse_reverse ps]
  generalize ps.reverse = r
  induction r with
  | nil => rfl
  | cons p r ih =>
    rw [List.reverse_cons, cntT_snoc]
    have ho : occ m (r.reverse ++ [p]) = occ m r.reverse ++ occ m [p] := by unfold occ; rw [List.filter_append, List.map_append]
    rw [ho, List.length_append]
    unfold cntS
    by_cases hm : p.2.f0 = m
    · subst hm
      rw [get_put_same, ih, occ_cons_same rfl]
      show ((occ p.2.f0 r.reverse).length : Int) + 1 = _
      simp [occ]
    · rw [get_put_other _ _ _ (Ne.symm hm), ih, occ_cons_other hm]
      simp [occ]
theorem apart_nodup {T : List (ByteArray × Int)} (h : Apart T) : T.Nodup := h.imp (fun hne e => hne (by rw [e]))
theorem perm_of_get {T T' : List (ByteArray × Int)} (h : Apart T) (h' : Apart T') (hg : ∀ m, getT T m = getT T' m) : T.Perm T' := by
  refine (List.perm_ext_iff_of_nodup (apart_nodup h) (apart_nodup h')).2 (fun p => ?_)
  rw [show p = (p.1, p.2) from rfl, ← h.get, ← h'.get, hg]
/-! Weights that are all 1. -/
theorem mem_occ {m : ByteArray} {ps : List (Nat × S36)} {q : Nat × Int} (h : q ∈ occ m ps) : ∃ p ∈ ps, p.2.f0 = m ∧ q = (p.1, p.2.f1) := by
  unfold occ at h
  obtain ⟨p, hp, rfl⟩ := List.mem_map.1 h
  obtain ⟨h1, h2⟩ := List.mem_filter.1 hp
  exact ⟨p, h1, by simpa using h2, rfl⟩
/-- A list's entries as a table. -/
def ents (x : List S36) : List (ByteArray × Int) := x.map (fun e => (e.f0, e.f1))
theorem ents_apart {x : List S36} (h : ApartE x) : Apart (ents x) := by unfold ents Apart; rw [List.pairwise_map]; exact h
/-- A member of one set has at most one score there. -/
theorem occ_one (m : ByteArray) (i : Nat) : ∀ x : List S36, ApartE x → occ m (x.map (fun e => (i, e))) = (match getT (ents x) m with | some v => [(i, v)] | none => [])
  | [], _ => rfl
  | e :: r, h => by
    have h1 := List.pairwise_cons.1 h
    have ih := occ_one m i r h1.2
    by_cases hm : e.f0 = m
    · subst hm
      have hn : getT (ents r) e.f0 = none := by
        rw [get_none]
        intro p hp
        unfold ents at hp
        obtain ⟨e', he', rfl⟩ := List.mem_map.1 hp
        exact Ne.symm (h1.1 e' he')
      have hs : getT (ents (e :: r)) e.f0 = some e.f1 := by
        unfold getT ents
        simp
      rw [hn] at ih
      rw [hs, List.map_cons, occ_cons_same (p := (i, e)) rfl, ih]
    · have hs : getT (ents (e :: r)) m = getT (ents r) m := by
        unfold getT ents
        rw [List.map_cons, List.find?_cons, decide_eq_false hm]
      rw [hs, List.map_cons, occ_cons_other (p := (i, e)) hm, ih]
theorem occ_append (m : ByteArray) (a b : List (Nat × S36)) : occ m (a ++ b) = occ m a ++ occ m b := by unfold occ; rw [List.filter_append, List.map_append]
theorem delS_zero : ∀ (x : List S36) (T : List (ByteArray × Int)), (x.map (fun e => ((0 : Nat), e))).foldl delS T = T
  | [], _ => rfl
  | e :: r, T => by rw [List.map_cons, List.foldl_cons]; exact delS_zero r T
/-- Is a member in a table? -/
def hasT (T : List (ByteArray × Int)) (m : ByteArray) : Bool := (getT T m).isSome
theorem hasT_key {T : List (ByteArray × Int)} {m : ByteArray} : hasT T m = true ↔ m ∈ T.map (·.1) := by
  unfold hasT
  rw [List.mem_map]
  constructor
  · intro h
    obtain ⟨v, hv⟩ := Option.isSome_iff_exists.1 h
    unfold getT at hv
    obtain ⟨p, hp, _⟩ := Option.map_eq_some_iff.1 hv
    exact ⟨p, List.mem_of_find?_eq_some hp, by have := List.find?_some hp; simpa using this⟩
  · rintro ⟨p, hp, rfl⟩
    cases e : getT T p.1 with
    | some v => rfl
    | none => exact absurd rfl (get_none p.1 |>.1 e p hp)
theorem findI_sortT (T : List (ByteArray × Int)) (m : ByteArray) : (findI (sortT T) m).isSome = hasT T m := by
  rw [Bool.eq_iff_iff, hasT_key]
  constructor
  · intro h
    obtain ⟨i, hi⟩ := Option.isSome_iff_exists.1 h
    obtain ⟨hlt, hm⟩ := findI_some hi
    have := mem_sortT.1 (List.getElem_mem hlt)
    exact List.mem_map.2 ⟨_, this, hm⟩
  · intro h
    obtain ⟨p, hp, rfl⟩ := List.mem_map.1 h
    cases e : findI (sortT T) p.1 with
    | some i => rfl
    | none => exact absurd rfl (findI_none.1 e ⟨p.1, p.2⟩ (mem_sortT.2 hp))
theorem put_len_has {T : List (ByteArray × Int)} {m : ByteArray} {v : Int} (h : ∃ p ∈ T, p.1 = m) : (putT T m v).length ≤ T.length := by
  obtain ⟨p, hp, rfl⟩ := h
  unfold putT
  rw [List.length_cons]
  have : (T.filter (fun q => !decide (q.1 = p.1))).length < T.length := by
    rcases Nat.lt_or_ge (T.filter (fun q => !decide (q.1 = p.1))).length T.length with h | h
    · exact h
    · have e := List.length_filter_eq_length_iff.1 (Nat.le_antisymm (List.length_filter_le _ _) h) p hp
      simp at e
  omega
theorem tab_len_apart : ∀ (l : List S36) (T : List (ByteArray × Int)), (l.foldl (fun T e => putT T e.f0 e.f1) T).length = T.length + l.length → ApartE l ∧ ∀ e ∈ l, ∀ p ∈ T, p.1 ≠ e.f0
  | [], T, _ => ⟨List.Pairwise.nil, fun _ he => by cases he⟩
  | x :: r, T, h => by
    rw [List.foldl_cons, List.length_cons] at h
    have h1 := tabT_len r (putT T x.f0 x.f1)
    have h2 := put_len T x.f0 x.f1
    have hn : ∀ p ∈ T, p.1 ≠ x.f0 := fun p hp e => by
      have := put_len_has (v := x.f1) ⟨p, hp, e⟩
      omega
    obtain ⟨h3, h4⟩ := tab_len_apart r (putT T x.f0 x.f1) (by omega)
    refine ⟨List.Pairwise.cons (fun e he => ?_) h3, fun e he p hp => ?_⟩
    · exact h4 e he (x.f0, x.f1) List.mem_cons_self
    · rcases List.mem_cons.1 he with rfl | he
      · exact hn p hp
      · refine h4 e he p (List.mem_cons_of_mem _ (mem_del.2 ⟨hp, hn p hp⟩))
theorem tab_apart_iff (l : List S36) : (tabT l).length = l.length ↔ ApartE l := by
  constructor
  · intro h
    exact (tab_len_apart l [] (by rw [List.length_nil, Nat.zero_add]; exact h)).1
  · intro h
    rw [(tabT_perm h).length_eq, List.length_map]
theorem findI_self {l : List S36} (h : ApartE l) {i : Nat} (hi : i < l.length) : findI l l[i].f0 = some i := by
  cases e : findI l l[i].f0 with
  | none => exact absurd rfl (findI_none.1 e _ (List.getElem_mem hi))
  | some j =>
    obtain ⟨hj, hm⟩ := findI_some e
    rcases Nat.lt_trichotomy i j with h1 | h1 | h1
    · exact absurd hm.symm (List.pairwise_iff_getElem.1 h i j hi hj h1)
    · rw [h1]
    · exact absurd hm (List.pairwise_iff_getElem.1 h j i hj hi h1)
/-- From i on all is right. -/
def okFrom (l : List S36) (i : Nat) : Prop := ∀ j, i ≤ j → ∀ hj : j < l.length, findI l l[j].f0 = some j ∧ ∀ h0 : 0 < j, lessE (l[j - 1]'(by omega)) l[j] = true
theorem downS_iff (l : List S36) : ∀ n, n < l.length → (downS l n = true ↔ ∀ j, 0 < j → j ≤ n → ∀ hj : j < l.length, lessE l[j] (l[j - 1]'(by omega)) = false)
  | 0, _ => by
    unfold downS
    exact ⟨fun _ j h0 h1 => absurd h0 (by omega), fun _ => rfl⟩
  | n + 1, hn => by
    unfold downS
    rw [Bool.and_eq_true, downS_iff l n (by omega), rd36_get hn, rd36_get (show n < l.length by omega), Bool.not_eq_true']
    constructor
    · rintro ⟨h1, h2⟩ j h0 hj hjl
      rcases Nat.lt_or_ge n j with h | h
      · obtain rfl : j = n + 1 := by omega
        exact h1
      · exact h2 j h0 h hjl
    · intro h
      exact ⟨h (n + 1) (by omega) (Nat.le_refl _) hn, fun j h0 hj hjl => h j h0 (by omega) hjl⟩
theorem rightB_iff (l : List S36) : rightB l = true ↔ okFrom l 0 := by
  unfold rightB
  rw [Bool.and_eq_true, decide_eq_true_eq, tab_apart_iff]
  constructor
  · rintro ⟨h1, h2⟩ j _ hj
    refine ⟨findI_self h1 hj, fun h0 => ?_⟩
    have hd := (downS_iff l (l.length - 1) (by omega)).1 h2 j h0 (by omega) hj
    have hne := List.pairwise_iff_getElem.1 h1 (j - 1) j (by omega) hj (by omega)
    cases e : lessE (l[j - 1]'(by omega)) l[j] with
    | true => rfl
    | false => exact absurd (by rw [lessE_tri _ _ e hd]) hne
  · intro h
    refine ⟨?_, ?_⟩
    · refine List.pairwise_iff_getElem.2 (fun i j hi hj hij e => ?_)
      have h1 := (h i (by omega) hi).1
      have h2 := (h j (by omega) hj).1
      rw [e, h2] at h1
      injection h1 with h1
      omega
    · rcases Nat.eq_zero_or_pos l.length with h0 | h0
      · rw [h0]; rfl
      · rw [downS_iff l (l.length - 1) (by omega)]
        intro j hj0 _ hj
        exact lessE_asymm _ _ ((h j (by omega) hj).2 hj0)
theorem right_loop (l : List S36) (hl : l.length ≤ 1000) (hs : ∀ e ∈ l, e.f0.size ≤ 10) : ∀ (d i k : Nat), i ≤ l.length → l.length - i = d → d + l.length + 40 < k → ∃ r, palioref13_Right.l0 k l i = some r ∧ (r = true ↔ okFrom l i)
  | 0, i, k, hi, hd, hk => by
    obtain ⟨k, rfl⟩ : ∃ n, k = n + 1 := ⟨k - 1, by omega⟩
    refine ⟨true, ?_, ⟨fun _ j hj hjl => absurd hjl (by omega), fun _ => rfl⟩⟩
    unfold palioref13_Right.l0
    rw [if_neg (by omega)]
  | d + 1, i, k, hi, hd, hk => by
    obtain ⟨k, rfl⟩ : ∃ n, k = n + 1 := ⟨k - 1, by omega⟩
    have hil : i < l.length := by omega
    obtain ⟨r, hr, hiff⟩ := right_loop l hl hs d (i + 1) k (by omega) (by omega) (by omega)
    have hsz := fun (j : Nat) (hj : j < l.length) => hs l[j] (List.getElem_mem hj)
    have hfind := find_ref l l[i].f0 (by omega) k (by omega)
    have hnext : ∀ c : Prop, (c ↔ (findI l l[i].f0 = some i ∧ ∀ h0 : 0 < i, lessE (l[i - 1]'(by omega)) l[i] = true)) → (okFrom l i ↔ c ∧ okFrom l (i + 1)) := by
      intro c hc
      rw [hc]
      constructor
      · intro h
        exact ⟨h i (Nat.le_refl _) hil, fun j hj hjl => h j (by omega) hjl⟩
      · rintro ⟨h1, h2⟩ j hj hjl
        rcases Nat.lt_or_ge i j with h | h
        · exact h2 j (by omega) hjl
        · obtain rfl : j = i := by omega
          exact h1
    have hstep : ∀ (c : Prop), (c ↔ ∀ h0 : 0 < i, lessE (l[i - 1]'(by omega)) l[i] = true) → c → ∃ r', (some (encF (findI l l[i].f0))).bind (fun t109 => if t109 = (i : Int) then palioref13_Right.l0 k l (wrap64 ((i : Int) + 1)) else some false) = some r' ∧ (r' = true ↔ okFrom l i) := by
      intro c hc hcc
      rw [Option.bind_some]
      by_cases hf : findI l l[i].f0 = some i
      · rw [hf, show encF (some i) = (i : Int) from rfl, if_pos rfl, wrap_succ i (by omega)]
        refine ⟨r, hr, ?_⟩
        rw [hnext True ⟨fun _ => ⟨hf, hc.1 hcc⟩, fun _ => trivial⟩, hiff]
        exact ⟨fun h => ⟨trivial, h⟩, fun h => h.2⟩
      · have hne : encF (findI l l[i].f0) ≠ (i : Int) := by
          cases e : findI l l[i].f0 with
          | none => simp [encF]
          | some j =>
            rw [e] at hf
            show (j : Int) ≠ (i : Int)
            intro h
            exact hf (by rw [show j = i by omega])
        rw [if_neg hne]
        refine ⟨false, rfl, ⟨fun h => (by cases h), fun h => absurd (h i (Nat.le_refl _) hil).1 hf⟩⟩
    unfold palioref13_Right.l0
    rw [if_pos (by omega)]
    by_cases h0 : 0 < i
    · have hw : wrap64 ((i : Int) - 1) = ((i - 1 : Nat) : Int) := by unfold wrap64; omega
      rw [if_pos (by omega), hw, if_pos (by omega), if_pos (by omega), if_pos (by omega), rd36_get hil, rd36_get (show i - 1 < l.length by omega), ahead_ref _ _ _ _ (by have := hsz (i - 1) (by omega); omega) k (by have := hsz (i - 1) (by omega); omega), Option.bind_some]
      by_cases hls : lessE (l[i - 1]'(by omega)) l[i] = true
      · rw [if_pos (show ahead _ _ _ _ = true from hls), hfind]
        exact hstep True ⟨fun _ _ => hls, fun _ => trivial⟩ trivial
      · rw [if_neg (show ¬ ahead _ _ _ _ = true from hls)]
        exact ⟨false, rfl, ⟨fun h => (by cases h), fun h => absurd ((h i (Nat.le_refl _) hil).2 h0) hls⟩⟩
    · rw [if_neg (by omega), if_pos (by omega), rd36_get hil, hfind]
      exact hstep True ⟨fun _ h => absurd h h0, fun _ => trivial⟩ trivial
theorem right_ref (l : List S36) (hl : l.length ≤ 1000) (hs : ∀ e ∈ l, e.f0.size ≤ 10) (k : Nat) (hk : 2 * l.length + 40 < k) : palioref13_Right.f k l = some (rightB l) := by
  obtain ⟨r, hr, hiff⟩ := right_loop l hl hs l.length 0 k (by omega) (by omega) (by omega)
  unfold palioref13_Right.f
  rw [show ((0 : Nat) : Int) = 0 from rfl] at hr
  rw [hr]
  congr 1
  rw [Bool.eq_iff_iff, hiff, rightB_iff]
theorem rightAll_loop (l : List (List S36)) (hs : Small l) (ws : List Int) (agg : Int) : ∀ (d i k : Nat), i ≤ l.length → l.length - i = d → d + 200 < k → palioref13_right.l0 k l ws agg i = some ((l.drop i).all rightB && (decide (0 < l.length) && (decide (ws.length = l.length) && (decide (1 ≤ agg) && decide (agg ≤ 3)))))
  | 0, i, k, hi, hd, hk => by
    obtain ⟨k, rfl⟩ : ∃ n, k = n + 1 := ⟨k - 1, by omega⟩
    obtain rfl : i = l.length := by omega
    unfold palioref13_right.l0
    rw [if_neg (by omega), List.drop_length, List.all_nil, Bool.true_and]
    by_cases h1 : 0 < l.length
    · rw [if_pos (by omega), decide_eq_true h1, Bool.true_and]
      by_cases h2 : ws.length = l.length
      · rw [if_pos (by omega), decide_eq_true h2, Bool.true_and]
        by_cases h3 : 1 ≤ agg
        · rw [if_pos (by omega), decide_eq_true h3, Bool.true_and]
        · rw [if_neg (by omega), decide_eq_false h3]; rfl
      · rw [if_neg (by omega), decide_eq_false h2]; rfl
    · rw [if_neg (by omega), decide_eq_false h1]; rfl
  | d + 1, i, k, hi, hd, hk => by
    obtain ⟨k, rfl⟩ : ∃ n, k = n + 1 := ⟨k - 1, by omega⟩
    have hil : i < l.length := by omega
    have hx := hs.each l[i] (List.getElem_mem hil)
    have hl := hs.len
    unfold palioref13_right.l0
    rw [if_pos (by omega), if_pos (by omega), rd3_get hil, right_ref _ (by omega) (fun e he => (hx.2 e he).1) k (by omega), Option.bind_some, List.drop_eq_getElem_cons hil, List.all_cons]
    cases hr : rightB l[i]
    · rw [if_neg (by simp)]; rfl
    · rw [if_pos rfl, wrap_succ i (by omega), rightAll_loop l hs ws agg d (i + 1) k (by omega) (by omega) (by omega), Bool.true_and]
/-- Is all right? -/
def okB (l : List (List S36)) (ws : List Int) (agg : Int) : Bool := setsB l && (decide (ws.length = l.length) && (decide (1 ≤ agg) && decide (agg ≤ 3)))
theorem setsB_eq (l : List (List S36)) : setsB l = (l.all rightB && decide (0 < l.length)) := by
  unfold setsB
  rw [Bool.and_comm]
  congr 1
  rw [List.not_any_eq_all_not]
  simp
theorem rightAll_ref (l : List (List S36)) (hs : Small l) (ws : List Int) (agg : Int) (k : Nat) (hk : 300 < k) : palioref13_right.f k l ws agg = some (okB l ws agg) := by
  have hl := hs.len
  have := rightAll_loop l hs ws agg l.length 0 k (by omega) (by omega) (by omega)
  rw [show ((0 : Nat) : Int) = 0 from rfl, List.drop_zero] at this
  unfold palioref13_right.f okB
  rw [this, setsB_eq, Bool.and_assoc]
/-! In how many sets a member is. -/
def inN (m : ByteArray) : List (List S36) → Nat
  | [] => 0
  | x :: r => (if (findI x m).isSome = true then 1 else 0) + inN m r
theorem in_loop (l : List (List S36)) (hs : Small l) (m : ByteArray) : ∀ (d i n k : Nat), i ≤ l.length → l.length - i = d → n + d ≤ 100 → d + 100 < k → palioref13_in.l0 k l m n i = some ((n + inN m (l.drop i) : Nat) : Int)
  | 0, i, n, k, hi, hd, hn, hk => by
    obtain ⟨k, rfl⟩ : ∃ n, k = n + 1 := ⟨k - 1, by omega⟩
    obtain rfl : i = l.length := by omega
    unfold palioref13_in.l0
    rw [if_neg (by omega), List.drop_length]
    rfl
  | d + 1, i, n, k, hi, hd, hn, hk => by
    obtain ⟨k, rfl⟩ : ∃ n, k = n + 1 := ⟨k - 1, by omega⟩
    have hil : i < l.length := by omega
    have hx := (hs.each l[i] (List.getElem_mem hil)).1
    have hl := hs.len
    unfold palioref13_in.l0
    rw [if_pos (by omega), if_pos (by omega), rd3_get hil, find_ref _ _ (by omega) k (by omega), Option.bind_some, List.drop_eq_getElem_cons hil]
    unfold inN
    cases hf : findI l[i] m with
    | none =>
      rw [if_neg (by simp [encF]), wrap_succ i (by omega), in_loop l hs m d (i + 1) n k (by omega) (by omega) (by omega) (by omega)]
      show some _ = some ((n + (0 + inN m (l.drop (i + 1))) : Nat) : Int)
      rw [Nat.zero_add]
    | some j =>
      rw [if_pos (by simp [encF]), wrap_succ i (by omega), wrap_succ n (by omega), in_loop l hs m d (i + 1) (n + 1) k (by omega) (by omega) (by omega) (by omega)]
      show some _ = some ((n + (1 + inN m (l.drop (i + 1))) : Nat) : Int)
      rw [← Nat.add_assoc]
theorem in_ref (l : List (List S36)) (hs : Small l) (m : ByteArray) (k : Nat) (hk : 200 < k) : palioref13_in.f k l m = some ((inN m l : Nat) : Int) := by
  have hl := hs.len
  have := in_loop l hs m l.length 0 0 k (by omega) (by omega) (by omega) (by omega)
  rw [show ((0 : Nat) : Int) = 0 from rfl, List.drop_zero, Nat.zero_add] at this
  exact this
/-! Products, sums. -/
theorem mul_ref (a b : Int) (k : Nat) (hk : 0 < k) : palioref01_Mul.f k a b = some (mulG a b) := by
  obtain ⟨k, rfl⟩ : ∃ n, k = n + 1 := ⟨k - 1, by omega⟩
  have h := mulG_some a b
  rw [← h]
  simp only [palioref01_Mul.f, palioref01_Mul.j0, ints_Mul.f]
  by_cases ha : a = 0
  · simp [ha]
  · rw [if_neg ha, if_neg ha]
    by_cases hb : b = 0
    · simp [hb]
    · rw [if_neg hb, if_neg (by simp [hb])]
      simp only [checked_some]
      by_cases h1 : a = -1 <;> by_cases h2 : b = -1 <;> by_cases h3 : a = -9223372036854775808 <;> by_cases h4 : b = -9223372036854775808 <;> by_cases h5 : wrap64 (Int.tdiv (wrap64 (a * b)) b) = a <;> simp_all
theorem add_ref (a b : Int) (ha : W64 a) (hb : W64 b) : palioref01_Add.f a b = some (addG a b) := by
  obtain ⟨a1, a2⟩ := wf64 ha
  obtain ⟨b1, b2⟩ := wf64 hb
  rw [← addG_some a b]
  unfold palioref01_Add.f ints_Add.f
  simp only [checked_some]
  have hw : wrap64 (a + b) = a + b ∨ wrap64 (a + b) = a + b - 18446744073709551616 ∨ wrap64 (a + b) = a + b + 18446744073709551616 := by unfold wrap64; omega
  have hw2 : -9223372036854775808 ≤ wrap64 (a + b) ∧ wrap64 (a + b) ≤ 9223372036854775807 := by unfold wrap64; omega
  generalize wrap64 (a + b) = s at hw hw2
  by_cases hb0 : b = 0
  · subst hb0
    have hs : s = a := by omega
    subst hs
    by_cases h1 : s ≥ 0
    · have h2 : ¬ s < 0 := by omega
      simp [h1, h2]
    · have h2 : s < 0 := by omega
      simp [h1, h2]
  · have key : ((decide (s > a) == decide (b > 0)) = true) ↔ (s > a ↔ b > 0) := by rw [beq_iff_eq, decide_eq_decide]
    by_cases hk : (decide (s > a) == decide (b > 0)) = true
    · have hk2 := key.1 hk
      rw [hk, if_neg hb0, Option.bind_some, if_pos rfl]
      repeat' split
      all_goals first | rfl | (exfalso; omega)
    · have hk2 : ¬ (s > a ↔ b > 0) := fun h => hk (key.2 h)
      rw [Bool.not_eq_true] at hk
      rw [hk, if_neg hb0, Option.bind_some, if_neg Bool.false_ne_true]
      repeat' split
      all_goals first | rfl | (exfalso; omega)
theorem together_ref (a b agg : Int) (h : agg = 1 ∨ agg = 2 ∨ agg = 3) (ha : W64 a) (hb : W64 b) : palioref13_together.f a b agg = some (wayG agg a b) := by
  unfold palioref13_together.f wayG
  rcases h with rfl | rfl | rfl
  · rw [if_neg (by decide), if_neg (by decide), if_pos rfl, add_ref a b ha hb, Option.bind_some]
  · rw [if_pos rfl, if_neg (by decide), if_pos rfl]
  · rw [if_neg (by decide), if_pos rfl, if_neg (by decide), if_neg (by decide)]
theorem mulG_code (a b : Int) : (mulG a b).2 = 0 ∨ (mulG a b).2 = 11 := by
  have h : ∀ r, ints_Mul.f a b = some r → r.2 = 0 ∨ r.2 = 11 := by
    intro r
    unfold ints_Mul.f
    simp only [checked_some]
    repeat' split
    all_goals
      intro h
      simp only [Option.bind_some, Option.some.injEq] at h
      subst h
      first
        | exact .inl rfl
        | exact .inr rfl
        | (split <;> first | exact .inl rfl | exact .inr rfl)
  exact h _ (mulG_some a b)
theorem wayG_code (agg a b : Int) : (wayG agg a b).2 = 0 ∨ (wayG agg a b).2 = 11 := by
  unfold wayG
  split
  · have h : ∀ r, ints_Add.f a b = some r → r.2 = 0 ∨ r.2 = 11 := by
      intro r
      unfold ints_Add.f
      simp only [checked_some]
      split
      all_goals
        intro h
        simp only [Option.bind_some, Option.some.injEq] at h
        subst h
        split
        · exact .inl rfl
        · exact .inr rfl
    exact h _ (addG_some a b)
  · split <;> exact .inl rfl
theorem get_find (m : ByteArray) : ∀ x : List S36, getT (ents x) m = (findI x m).map (fun j => (x.getD j z36).f1)
  | [] => rfl
  | e :: r => by
    have ih := get_find m r
    unfold findI
    rw [List.findIdx?_cons]
    by_cases hm : e.f0 = m
    · rw [decide_eq_true hm, if_pos rfl]
      unfold getT ents
      rw [List.map_cons, List.find?_cons, decide_eq_true hm]
      rfl
    · rw [decide_eq_false hm, if_neg (by simp)]
      have : getT (ents (e :: r)) m = getT (ents r) m := by unfold getT ents; rw [List.map_cons, List.find?_cons, decide_eq_false hm]
      rw [this, ih]
      unfold findI
      rw [Option.map_map]
      rfl
theorem occ_find {x : List S36} (h : ApartE x) (i : Nat) (m : ByteArray) : occ m (x.map (fun e => (i, e))) = (match findI x m with | some j => [(i, (x.getD j z36).f1)] | none => []) := by
  rw [occ_one m i x h, get_find]
  cases findI x m <;> rfl
theorem foldm_keeps (ws : List Int) (agg : Int) : ∀ (qs : List (Nat × Int)) (v : Int), foldm ws agg (some v) qs ≠ some none
  | [], v => by rw [foldm]; simp
  | q :: r, v => by
    rw [foldm]
    cases e : stepm ws agg (some v) q with
    | none => simp
    | some o =>
      obtain ⟨v', rfl⟩ := Option.isSome_iff_exists.1 (stepm_isSome e)
      exact foldm_keeps ws agg r v'
/-- What the document comes to at a member. -/
theorem score_loop (l : List (List S36)) (hs : Small l) (hr : ∀ x ∈ l, ApartE x) (ws : List Int) (hw : ws.length = l.length) (agg : Int) (ha : agg = 1 ∨ agg = 2 ∨ agg = 3) (m : ByteArray) : ∀ (d i k n : Nat) (o : Option Int) (sum : Int), i ≤ l.length → l.length - i = d → n + d ≤ 100 → 2 * d + 100 < k → (match o with | none => n = 0 | some v => v = sum ∧ 0 < n ∧ W64 v) →
    ∃ n' : Int, palioref13_score.l0 k l ws agg m sum n i = some (match foldm ws agg o (occ m (pairsF i (l.drop i))) with | none => (0, 0, 11) | some o' => (o'.getD sum, n', 0))
  | 0, i, k, n, o, sum, hi, hd, hn, hk, ho => by
    obtain ⟨k, rfl⟩ : ∃ n, k = n + 1 := ⟨k - 1, by omega⟩
    obtain rfl : i = l.length := by omega
    refine ⟨n, ?_⟩
    unfold palioref13_score.l0
    rw [if_neg (by omega), List.drop_length]
    have e : foldm ws agg o (occ m (pairsF l.length [])) = some o := rfl
    rw [e]
    cases o with
    | none => rfl
    | some v => obtain ⟨rfl, _⟩ := ho; rfl
  | d + 1, i, k, n, o, sum, hi, hd, hn, hk, ho => by
    obtain ⟨k, rfl⟩ : ∃ n, k = n + 1 + 1 := ⟨k - 2, by omega⟩
    have hil : i < l.length := by omega
    have hx := hs.each l[i] (List.getElem_mem hil)
    have hl := hs.len
    have hocc : occ m (pairsF i (l.drop i)) = (match findI l[i] m with | some j => [(i, (l[i].getD j z36).f1)] | none => []) ++ occ m (pairsF (i + 1) (l.drop (i + 1))) := by
      rw [pairs_step l i hil, occ_append, occ_find (hr _ (List.getElem_mem hil))]
    unfold palioref13_score.l0
    rw [if_pos (by omega), if_pos (by omega), rd3_get hil, find_ref _ _ (by omega) (k + 1) (by omega), Option.bind_some, hocc]
    cases hf : findI l[i] m with
    | none =>
      dsimp only
      rw [List.nil_append, if_pos (by simp [encF]), wrap_succ i (by omega)]
      exact score_loop l hs hr ws hw agg ha m d (i + 1) (k + 1) n o sum (by omega) (by omega) (by omega) (by omega) ho
    | some j =>
      obtain ⟨hj, _⟩ := findI_some hf
      have hgd : (l[i].getD j z36) = l[i][j] := by rw [List.getD_eq_getElem?_getD, List.getElem?_eq_getElem hj]; rfl
      dsimp only
      rw [hgd, show encF (some j) = (j : Int) from rfl, if_neg (by omega), if_pos (by omega), if_pos (by omega), if_pos (by omega), rd36_get hj, mul_ref _ _ (k + 1) (by omega), Option.bind_some, List.singleton_append, foldm]
      have hmw := mulG_wf l[i][j].f1 (rd ws i)
      have hcd := mulG_code l[i][j].f1 (rd ws i)
      unfold stepm
      generalize mulG l[i][j].f1 (rd ws i) = mu at hmw hcd ⊢
      obtain ⟨pv, pc⟩ := mu
      simp only at hmw hcd ⊢
      rcases hcd with rfl | rfl
      · rw [if_pos rfl, if_pos rfl]
        unfold palioref13_score.j1
        cases o with
        | none =>
          have hn0 : n = 0 := ho
          subst hn0
          rw [if_neg (by simp), if_pos rfl, wrap_succ i (by omega), wrap_succ 0 (by omega)]
          obtain ⟨n', h'⟩ := score_loop l hs hr ws hw agg ha m d (i + 1) k (0 + 1) (some pv) pv (by omega) (by omega) (by omega) (by omega) ⟨rfl, by omega, hmw⟩
          refine ⟨n', ?_⟩
          rw [h']
          show some (match foldm ws agg (some pv) _ with | none => _ | some o' => _) = some (match foldm ws agg (some pv) _ with | none => _ | some o' => _)
          cases hfm : foldm ws agg (some pv) (occ m (pairsF (i + 1) (List.drop (i + 1) l))) with
          | none => rfl
          | some o' =>
            cases o' with
            | some v' => rfl
            | none => exact absurd hfm (foldm_keeps ws agg _ pv)
        | some v =>
          obtain ⟨rfl, hn0, hvw⟩ := ho
          have hww := wayG_wf agg v pv hvw hmw
          have hwc := wayG_code agg v pv
          rw [if_pos (by simp; omega), together_ref v pv agg ha hvw hmw, Option.bind_some]
          dsimp only
          generalize wayG agg v pv = wv at hww hwc ⊢
          obtain ⟨qv, qc⟩ := wv
          simp only at hww hwc ⊢
          rcases hwc with rfl | rfl
          · rw [if_pos rfl, if_pos rfl, wrap_succ i (by omega), wrap_succ n (by omega)]
            obtain ⟨n', h'⟩ := score_loop l hs hr ws hw agg ha m d (i + 1) k (n + 1) (some qv) qv (by omega) (by omega) (by omega) (by omega) ⟨rfl, by omega, hww⟩
            refine ⟨n', ?_⟩
            rw [h']
            show some (match foldm ws agg (some qv) _ with | none => _ | some o' => _) = some (match foldm ws agg (some qv) _ with | none => _ | some o' => _)
            cases hfm : foldm ws agg (some qv) (occ m (pairsF (i + 1) (List.drop (i + 1) l))) with
            | none => rfl
            | some o' =>
              cases o' with
              | some v' => rfl
              | none => exact absurd hfm (foldm_keeps ws agg _ qv)
          · rw [if_neg (by decide), if_neg (by decide)]
            exact ⟨0, rfl⟩
      · rw [if_neg (by decide), if_neg (by decide)]
        unfold palioref13_score.j1
        rw [if_neg (by simp), if_neg (by decide)]
        exact ⟨0, rfl⟩
theorem score_ref (l : List (List S36)) (hs : Small l) (hr : ∀ x ∈ l, ApartE x) (ws : List Int) (hw : ws.length = l.length) (agg : Int) (ha : agg = 1 ∨ agg = 2 ∨ agg = 3) (m : ByteArray) (k : Nat) (hk : 200 < k) :
    ∃ n' : Int, palioref13_score.f k l ws agg m = some (match foldm ws agg none (occ m (pairs l)) with | none => (0, 0, 11) | some o' => (o'.getD 0, n', 0)) := by
  have hl := hs.len
  have := score_loop l hs hr ws hw agg ha m l.length 0 k 0 none 0 (by omega) (by omega) (by omega) (by omega) rfl
  rw [List.drop_zero] at this
  exact this
theorem occ_in (m : ByteArray) : ∀ (l : List (List S36)) (i : Nat), (∀ x ∈ l, ApartE x) → (occ m (pairsF i l)).length = inN m l
  | [], _, _ => rfl
  | x :: r, i, h => by
    have ih := occ_in m r (i + 1) (fun y hy => h y (List.mem_cons_of_mem _ hy))
    unfold pairsF inN
    rw [occ_append, List.length_append, ih, occ_find (h x List.mem_cons_self)]
    cases findI x m <;> rfl
theorem cnt_in (m : ByteArray) (l : List (List S36)) (h : ∀ x ∈ l, ApartE x) : (getT (cntT (pairs l)) m).getD 0 = ((inN m l : Nat) : Int) := by
  rw [cnt_occ]
  unfold pairs
  rw [occ_in m l 0 h]
/-- A step of the document's making. -/
def stepR (l : List (List S36)) (least : Int) (V : ByteArray → Option (Option Int)) (T : List (ByteArray × Int)) (p : Nat × S36) : Option (List (ByteArray × Int)) :=
  if ((inN p.2.f0 l : Nat) : Int) < least ∨ hasT T p.2.f0 = true then some T else (V p.2.f0).map (fun o => putT T p.2.f0 (o.getD 0))
def foldR (l : List (List S36)) (least : Int) (V : ByteArray → Option (Option Int)) (T : List (ByteArray × Int)) : List (Nat × S36) → Option (List (ByteArray × Int))
  | [] => some T
  | p :: ps => (stepR l least V T p).bind fun T' => foldR l least V T' ps
theorem foldR_append (l : List (List S36)) (least : Int) (V : ByteArray → Option (Option Int)) : ∀ (a b : List (Nat × S36)) (T : List (ByteArray × Int)), foldR l least V T (a ++ b) = (foldR l least V T a).bind fun T' => foldR l least V T' b
  | [], b, T => rfl
  | p :: a, b, T => by
    rw [List.cons_append, foldR, foldR]
    cases stepR l least V T p with
    | none => rfl
    | some T' => exact foldR_append l least V a b T'
/-- A table of short keys that are apart. -/
def TInv (T : List (ByteArray × Int)) (n : Nat) : Prop := Apart T ∧ T.length ≤ n ∧ ∀ p ∈ T, p.1.size ≤ 10
theorem stepR_inv {l : List (List S36)} {least : Int} {V : ByteArray → Option (Option Int)} {T T' : List (ByteArray × Int)} {p : Nat × S36} {n : Nat} (h : TInv T n) (hp : p.2.f0.size ≤ 10) (hs : stepR l least V T p = some T') : TInv T' (n + 1) := by
  unfold stepR at hs
  split at hs
  · cases hs; exact ⟨h.1, by have := h.2.1; omega, h.2.2⟩
  · obtain ⟨o, _, rfl⟩ := Option.map_eq_some_iff.1 hs
    refine ⟨h.1.put _ _, by have := put_len T p.2.f0 (o.getD 0); have := h.2.1; omega, fun q hq => ?_⟩
    rcases mem_putT hq with rfl | hq
    · exact hp
    · exact h.2.2 q hq
theorem foldR_inv {l : List (List S36)} {least : Int} {V : ByteArray → Option (Option Int)} : ∀ (ps : List (Nat × S36)) {T T' : List (ByteArray × Int)} {n : Nat}, TInv T n → (∀ p ∈ ps, p.2.f0.size ≤ 10) → foldR l least V T ps = some T' → TInv T' (n + ps.length)
  | [], _, _, _, h, _, hs => by cases hs; exact h
  | p :: ps, T, T', n, h, hp, hs => by
    rw [foldR] at hs
    obtain ⟨T1, h1, h2⟩ := Option.bind_eq_some_iff.1 hs
    have := foldR_inv ps (stepR_inv h (hp p List.mem_cons_self) h1) (fun q hq => hp q (List.mem_cons_of_mem _ hq)) h2
    rw [List.length_cons, show n + (ps.length + 1) = n + 1 + ps.length by omega]
    exact this
def resR : Option (List (ByteArray × Int)) → List S36 × Int
  | none => ([], 11)
  | some T => (sortT T, 0)
theorem all_l1 (l : List (List S36)) (hs : Small l) (hr : ∀ x ∈ l, ApartE x) (ws : List Int) (hw : ws.length = l.length) (agg : Int) (ha : agg = 1 ∨ agg = 2 ∨ agg = 3) (least : Int) (i : Nat) (hi : i < l.length) : ∀ (d j k n : Nat) (T : List (ByteArray × Int)), j ≤ l[i].length → l[i].length - j = d → TInv T n → n + d ≤ 300 → 2 * d + 700 < k →
    ∃ k', k ≤ k' + 2 * d + 1 ∧ palioref13_all.l1 k l ws agg least (sortT T) i j = (match foldR l least (fun m => foldm ws agg none (occ m (pairs l))) T ((l[i].drop j).map (fun e => (i, e))) with | none => some ([], 11) | some T' => palioref13_all.l0 k' l ws agg least (sortT T') ((i + 1 : Nat) : Int))
  | 0, j, k, n, T, hj, hd, hT, hn, hk => by
    obtain ⟨k, rfl⟩ : ∃ n, k = n + 1 := ⟨k - 1, by omega⟩
    have hl := hs.len
    refine ⟨k, by omega, ?_⟩
    rw [show j = l[i].length by omega, List.drop_length]
    unfold palioref13_all.l1
    rw [if_pos (by omega), if_pos (by omega), rd3_get hi, if_neg (by omega), wrap_succ i (by omega)]
    rfl
  | d + 1, j, k, n, T, hj, hd, hT, hn, hk => by
    obtain ⟨k, rfl⟩ : ∃ n, k = n + 1 + 1 := ⟨k - 2, by omega⟩
    have hl := hs.len
    have hx := hs.each l[i] (List.getElem_mem hi)
    have hjl : j < l[i].length := by omega
    have hej := (hx.2 l[i][j] (List.getElem_mem hjl)).1
    have hsz : (sortT T).length ≤ 300 := by rw [sortT_len]; have := hT.2.1; omega
    have hss : ∀ e ∈ sortT T, e.f0.size ≤ 10 := fun e he => hT.2.2 _ (mem_sortT.1 he)
    have hfs := findI_sortT T l[i][j].f0
    rw [List.drop_eq_getElem_cons hjl, List.map_cons, foldR]
    unfold palioref13_all.l1
    rw [if_pos (by omega), if_pos (by omega), rd3_get hi, if_pos (by omega), if_pos (by omega), rd36_get hjl, in_ref l hs _ (k + 1) (by omega), Option.bind_some]
    unfold stepR
    by_cases hlo : ((inN l[i][j].f0 l : Nat) : Int) < least
    · rw [if_pos hlo, if_pos (.inl hlo), Option.bind_some]
      unfold palioref13_all.j2
      rw [if_pos rfl, wrap_succ j (by omega)]
      obtain ⟨k', h1, h2⟩ := all_l1 l hs hr ws hw agg ha least i hi d (j + 1) k n T (by omega) (by omega) hT (by omega) (by omega)
      exact ⟨k', by omega, h2⟩
    · rw [if_neg hlo, find_ref _ _ (by omega) (k + 1) (by omega), Option.bind_some]
      unfold palioref13_all.j2
      by_cases hh : hasT T l[i][j].f0 = true
      · rw [decide_eq_true (by rw [ge_iff_le, encF_pos, hfs]; exact hh), if_pos rfl, if_pos (.inr hh), Option.bind_some, wrap_succ j (by omega)]
        obtain ⟨k', h1, h2⟩ := all_l1 l hs hr ws hw agg ha least i hi d (j + 1) k n T (by omega) (by omega) hT (by omega) (by omega)
        exact ⟨k', by omega, h2⟩
      · have hnf : findI (sortT T) l[i][j].f0 = none := by
          cases e : findI (sortT T) l[i][j].f0 with
          | none => rfl
          | some a => rw [e] at hfs; exact absurd hfs.symm hh
        rw [decide_eq_false (by rw [hnf]; decide), if_neg Bool.false_ne_true, if_neg (by rintro (h | h); exact hlo h; exact hh h)]
        obtain ⟨n', hsc⟩ := score_ref l hs hr ws hw agg ha l[i][j].f0 k (by omega)
        rw [hsc, Option.bind_some]
        cases hv : foldm ws agg none (occ l[i][j].f0 (pairs l)) with
        | none =>
          refine ⟨k, by omega, ?_⟩
          dsimp only
          rw [if_neg (by decide), hv]
          rfl
        | some o =>
          have hput := sortT_put T ⟨l[i][j].f0, o.getD 0⟩
          rw [del_none hnf] at hput
          have hstep : stepR l least (fun m => foldm ws agg none (occ m (pairs l))) T (i, l[i][j]) = some (putT T l[i][j].f0 (o.getD 0)) := by
            unfold stepR
            rw [if_neg (by rintro (h | h); exact hlo h; exact hh h)]
            dsimp only
            rw [hv]
            rfl
          have hT' := stepR_inv hT hej hstep
          obtain ⟨k', h1, h2⟩ := all_l1 l hs hr ws hw agg ha least i hi d (j + 1) k (n + 1) _ (by omega) (by omega) hT' (by omega) (by omega)
          refine ⟨k', by omega, ?_⟩
          dsimp only
          rw [if_pos rfl, show palioref11_Sorted.f k (sortT T) l[i][j].f0 (o.getD 0) = some (insE ⟨l[i][j].f0, o.getD 0⟩ (sortT T)) from sorted_ref (sortT T) (⟨l[i][j].f0, o.getD 0⟩ : S36) (by omega) hss k (by omega), Option.bind_some, hput, wrap_succ j (by omega), h2, hv]
          rfl
theorem all_l0 (l : List (List S36)) (hs : Small l) (hr : ∀ x ∈ l, ApartE x) (ws : List Int) (hw : ws.length = l.length) (agg : Int) (ha : agg = 1 ∨ agg = 2 ∨ agg = 3) (least : Int) : ∀ (d i k n : Nat) (T : List (ByteArray × Int)), i ≤ l.length → l.length - i = d → TInv T n → n + 30 * d ≤ 200 → 70 * d + 900 < k →
    palioref13_all.l0 k l ws agg least (sortT T) i = some (resR (foldR l least (fun m => foldm ws agg none (occ m (pairs l))) T (pairsF i (l.drop i))))
  | 0, i, k, n, T, hi, hd, hT, hn, hk => by
    obtain ⟨k, rfl⟩ : ∃ n, k = n + 1 := ⟨k - 1, by omega⟩
    rw [show i = l.length by omega, List.drop_length]
    unfold palioref13_all.l0
    rw [if_neg (by omega)]
    rfl
  | d + 1, i, k, n, T, hi, hd, hT, hn, hk => by
    obtain ⟨k, rfl⟩ : ∃ n, k = n + 1 := ⟨k - 1, by omega⟩
    have hl := hs.len
    have hil : i < l.length := by omega
    have hx := hs.each l[i] (List.getElem_mem hil)
    obtain ⟨k', h1, h2⟩ := all_l1 l hs hr ws hw agg ha least i hil l[i].length 0 k n T (by omega) (by omega) hT (by omega) (by omega)
    rw [List.drop_zero] at h2
    unfold palioref13_all.l0
    rw [if_pos (by omega)]
    rw [show ((0 : Nat) : Int) = 0 from rfl] at h2
    rw [h2, pairs_step l i hil, foldR_append]
    cases hf : foldR l least (fun m => foldm ws agg none (occ m (pairs l))) T (l[i].map (fun e => (i, e))) with
    | none => rfl
    | some T' =>
      have hT' := foldR_inv _ hT (fun p hp => by obtain ⟨e, he, rfl⟩ := List.mem_map.1 hp; exact (hx.2 e he).1) hf
      rw [List.length_map] at hT'
      have hT2 : TInv T' (n + 30) := ⟨hT'.1, by have := hT'.2.1; omega, hT'.2.2⟩
      exact all_l0 l hs hr ws hw agg ha least d (i + 1) k' (n + 30) T' (by omega) (by omega) hT2 (by omega) (by omega)
/-- Where all is well at the members that count. -/
theorem foldR_some (l : List (List S36)) (least : Int) (V : ByteArray → Option (Option Int)) : ∀ (ps : List (Nat × S36)) (T : List (ByteArray × Int)), Apart T → (∀ p ∈ ps, ¬ ((inN p.2.f0 l : Nat) : Int) < least → ∃ v, V p.2.f0 = some (some v)) →
    ∃ R, foldR l least V T ps = some R ∧ Apart R ∧ ∀ m, getT R m = if hasT T m = true then getT T m else if (∃ p ∈ ps, p.2.f0 = m) ∧ ¬ ((inN m l : Nat) : Int) < least then (V m).join else none
  | [], T, h, _ => ⟨T, rfl, h, fun m => by
    by_cases hh : hasT T m = true
    · rw [if_pos hh]
    · rw [if_neg hh, if_neg (by rintro ⟨⟨p, hp, _⟩, _⟩; cases hp)]
      unfold hasT at hh
      cases e : getT T m with
      | none => rfl
      | some v => rw [e] at hh; exact absurd rfl hh⟩
  | p :: ps, T, h, hV => by
    rw [foldR]
    unfold stepR
    by_cases hskip : ((inN p.2.f0 l : Nat) : Int) < least ∨ hasT T p.2.f0 = true
    · rw [if_pos hskip, Option.bind_some]
      obtain ⟨R, h1, h2, h3⟩ := foldR_some l least V ps T h (fun q hq => hV q (List.mem_cons_of_mem _ hq))
      refine ⟨R, h1, h2, fun m => ?_⟩
      rw [h3 m]
      by_cases hh : hasT T m = true
      · rw [if_pos hh, if_pos hh]
      · rw [if_neg hh, if_neg hh]
        have e : ((∃ q ∈ ps, q.2.f0 = m) ∧ ¬ ((inN m l : Nat) : Int) < least) ↔ ((∃ q ∈ p :: ps, q.2.f0 = m) ∧ ¬ ((inN m l : Nat) : Int) < least) := by
          constructor
          · rintro ⟨⟨q, hq, hm⟩, h⟩; exact ⟨⟨q, List.mem_cons_of_mem _ hq, hm⟩, h⟩
          · rintro ⟨⟨q, hq, hm⟩, h⟩
            rcases List.mem_cons.1 hq with rfl | hq
            · subst hm
              rcases hskip with hs | hs
              · exact absurd hs h
              · exact absurd hs hh
            · exact ⟨⟨q, hq, hm⟩, h⟩
        by_cases hc : (∃ q ∈ ps, q.2.f0 = m) ∧ ¬ ((inN m l : Nat) : Int) < least
        · rw [if_pos hc, if_pos (e.1 hc)]
        · rw [if_neg hc, if_neg (fun h => hc (e.2 h))]
    · rw [if_neg hskip]
      obtain ⟨v, hv⟩ := hV p List.mem_cons_self (fun h => hskip (.inl h))
      rw [hv, Option.map_some, Option.bind_some]
      obtain ⟨R, h1, h2, h3⟩ := foldR_some l least V ps (putT T p.2.f0 v) (h.put _ _) (fun q hq => hV q (List.mem_cons_of_mem _ hq))
      refine ⟨R, h1, h2, fun m => ?_⟩
      rw [h3 m]
      by_cases hm : p.2.f0 = m
      · subst hm
        have hp : hasT (putT T p.2.f0 v) p.2.f0 = true := by unfold hasT; rw [get_put_same]; rfl
        rw [if_pos hp, get_put_same, if_neg (fun h => hskip (.inr h)), if_pos ⟨⟨p, List.mem_cons_self, rfl⟩, fun h => hskip (.inl h)⟩, hv]
        rfl
      · have e1 : hasT (putT T p.2.f0 v) m = hasT T m := by unfold hasT; rw [get_put_other _ _ _ (Ne.symm hm)]
        rw [e1, get_put_other _ _ _ (Ne.symm hm)]
        have e : ((∃ q ∈ ps, q.2.f0 = m) ∧ ¬ ((inN m l : Nat) : Int) < least) ↔ ((∃ q ∈ p :: ps, q.2.f0 = m) ∧ ¬ ((inN m l : Nat) : Int) < least) := by
          constructor
          · rintro ⟨⟨q, hq, hm⟩, h⟩; exact ⟨⟨q, List.mem_cons_of_mem _ hq, hm⟩, h⟩
          · rintro ⟨⟨q, hq, hm'⟩, h⟩
            rcases List.mem_cons.1 hq with rfl | hq
            · exact absurd hm' hm
            · exact ⟨⟨q, hq, hm'⟩, h⟩
        by_cases hh : hasT T m = true
        · rw [if_pos hh, if_pos hh]
        · rw [if_neg hh, if_neg hh]
          by_cases hc : (∃ q ∈ ps, q.2.f0 = m) ∧ ¬ ((inN m l : Nat) : Int) < least
          · rw [if_pos hc, if_pos (e.1 hc)]
          · rw [if_neg hc, if_neg (fun h => hc (e.2 h))]
/-- Where something is too great. -/
theorem foldR_bad (l : List (List S36)) (least : Int) (V : ByteArray → Option (Option Int)) (m : ByteArray) (hV : V m = none) (hc : ¬ ((inN m l : Nat) : Int) < least) : ∀ (ps : List (Nat × S36)) (T : List (ByteArray × Int)), hasT T m = false → (∃ p ∈ ps, p.2.f0 = m) → foldR l least V T ps = none
  | [], _, _, h => by obtain ⟨p, hp, _⟩ := h; cases hp
  | p :: ps, T, hT, h => by
    rw [foldR]
    unfold stepR
    by_cases hm : p.2.f0 = m
    · subst hm
      rw [if_neg (by rintro (h | h); exact hc h; rw [hT] at h; cases h), hV]
      rfl
    · have h2 : ∃ q ∈ ps, q.2.f0 = m := by
        obtain ⟨q, hq, hqm⟩ := h
        rcases List.mem_cons.1 hq with rfl | hq
        · exact absurd hqm hm
        · exact ⟨q, hq, hqm⟩
      by_cases hskip : ((inN p.2.f0 l : Nat) : Int) < least ∨ hasT T p.2.f0 = true
      · rw [if_pos hskip, Option.bind_some]
        exact foldR_bad l least V m hV hc ps T hT h2
      · rw [if_neg hskip]
        cases V p.2.f0 with
        | none => rfl
        | some o =>
          rw [Option.map_some, Option.bind_some]
          exact foldR_bad l least V m hV hc ps _ (by unfold hasT at *; rw [get_put_other _ _ _ (Ne.symm hm)]; exact hT) h2
theorem okB_iff (l : List (List S36)) (ws : List Int) (agg : Int) : okB l ws agg = true ↔ (setsB l = true ∧ (wayN agg).isSome = true ∧ ws.length = l.length) := by
  unfold okB wayN
  simp only [Bool.and_eq_true, decide_eq_true_eq]
  constructor
  · rintro ⟨h1, h2, h3, h4⟩
    refine ⟨h1, ?_, h2⟩
    have : agg = 1 ∨ agg = 2 ∨ agg = 3 := by omega
    rcases this with rfl | rfl | rfl <;> rfl
  · rintro ⟨h1, h2, h3⟩
    refine ⟨h1, h3, ?_⟩
    by_cases a1 : agg = 1
    · omega
    · by_cases a2 : agg = 2
      · omega
      · by_cases a3 : agg = 3
        · omega
        · rw [if_neg a1, if_neg a2, if_neg a3] at h2; cases h2
theorem sets_apart {l : List (List S36)} (h : setsB l = true) : ∀ x ∈ l, rightB x = true := by
  rw [setsB_eq, Bool.and_eq_true] at h
  exact List.all_eq_true.1 h.1
theorem right_apart {x : List S36} (h : rightB x = true) : ApartE x := by
  unfold rightB at h
  rw [Bool.and_eq_true, decide_eq_true_eq, tab_apart_iff] at h
  exact h.1
theorem foldm_full {ws : List Int} {agg : Int} {q : Nat × Int} {r : List (Nat × Int)} {o : Option Int} (h : foldm ws agg none (q :: r) = some o) : o.isSome = true := by
  rw [foldm] at h
  obtain ⟨o1, h1, h2⟩ := Option.bind_eq_some_iff.1 h
  obtain ⟨v, rfl⟩ := Option.isSome_iff_exists.1 (stepm_isSome h1)
  cases o with
  | none => exact absurd h2 (foldm_keeps ws agg r v)
  | some w => rfl
theorem occ_mem {m : ByteArray} {ps : List (Nat × S36)} {p : Nat × S36} (hp : p ∈ ps) (hm : p.2.f0 = m) : ∃ q r, occ m ps = q :: r := by
  cases e : occ m ps with
  | cons q r => exact ⟨q, r, rfl⟩
  | nil =>
    have : (p.1, p.2.f1) ∈ occ m ps := by unfold occ; exact List.mem_map.2 ⟨p, List.mem_filter.2 ⟨hp, by simp [hm]⟩, rfl⟩
    rw [e] at this
    cases this
theorem all_ref (l : List (List S36)) (hs : Small l) (ws : List Int) (agg least : Int) (k : Nat) (hk : 2000 ≤ k) : palioref13_all.f k l ws agg least = some (madeF l ws agg least) := by
  unfold palioref13_all.f
  rw [rightAll_ref l hs ws agg k (by omega), Option.bind_some]
  have hl := hs.len
  cases hok : okB l ws agg with
  | false =>
    rw [if_neg Bool.false_ne_true]
    unfold madeF
    rw [if_neg (fun h => by have := (okB_iff l ws agg).2 h; rw [hok] at this; cases this)]
  | true =>
    obtain ⟨h1, h2, h3⟩ := (okB_iff l ws agg).1 hok
    have hr : ∀ x ∈ l, ApartE x := fun x hx => right_apart (sets_apart h1 x hx)
    have ha : agg = 1 ∨ agg = 2 ∨ agg = 3 := by
      unfold wayN at h2
      by_cases a1 : agg = 1
      · exact .inl a1
      · by_cases a2 : agg = 2
        · exact .inr (.inl a2)
        · by_cases a3 : agg = 3
          · exact .inr (.inr a3)
          · rw [if_neg a1, if_neg a2, if_neg a3] at h2; cases h2
    rw [if_pos rfl]
    have hall := all_l0 l hs hr ws h3 agg ha least l.length 0 k 0 [] (by omega) (by omega) ⟨List.Pairwise.nil, Nat.le_refl _, fun _ h => by cases h⟩ (by omega) (by omega)
    rw [List.drop_zero, show sortT [] = [] from List.eq_nil_of_length_eq_zero (by rw [sortT_len]; rfl), show ((0 : Nat) : Int) = 0 from rfl] at hall
    rw [hall]
    unfold madeF
    rw [if_pos ⟨h1, h2, h3⟩]
    congr 1
    show resR (foldR l least (fun m => foldm ws agg none (occ m (pairs l))) [] (pairs l)) = _
    cases hf : foldM (cntT (pairs l)) least ws agg [] (pairs l) with
    | none =>
      obtain ⟨m, c1, c2⟩ := foldM_bad _ _ _ _ _ _ hf
      rw [show getT [] m = none from rfl] at c2
      rw [cnt_in m l hr] at c1
      have hex : ∃ p ∈ pairs l, p.2.f0 = m := by
        cases e : occ m (pairs l) with
        | nil => rw [e] at c2; cases c2
        | cons q r =>
          obtain ⟨p, hp, hm, _⟩ := mem_occ (show q ∈ occ m (pairs l) by rw [e]; exact List.mem_cons_self)
          exact ⟨p, hp, hm⟩
      rw [foldR_bad l least _ m c2 c1 (pairs l) [] rfl hex]
      rfl
    | some T =>
      obtain ⟨a1, a2⟩ := foldM_some _ _ _ _ _ _ _ List.Pairwise.nil hf
      obtain ⟨R, r1, r2, r3⟩ := foldR_some l least (fun m => foldm ws agg none (occ m (pairs l))) (pairs l) [] List.Pairwise.nil (fun p hp hc => by
        rw [← cnt_in _ l hr] at hc
        have hv := (a2 p.2.f0).1 hc
        rw [show getT [] p.2.f0 = none from rfl] at hv
        obtain ⟨q, r, e⟩ := occ_mem (m := p.2.f0) hp rfl
        have hs2 := hv
        rw [e] at hs2
        obtain ⟨v, hv2⟩ := Option.isSome_iff_exists.1 (foldm_full hs2)
        exact ⟨v, by rw [← hv2]; exact hv⟩)
      rw [r1]
      show (sortT R, (0 : Int)) = (sortT T, 0)
      rw [sortT_congr (perm_of_get r2 a1 (fun m => ?_))]
      rw [r3 m, if_neg (by unfold hasT; simp [getT])]
      by_cases hlow : ((inN m l : Nat) : Int) < least
      · rw [if_neg (fun h => h.2 hlow), (a2 m).2 (by rw [cnt_in m l hr]; exact hlow)]
        rfl
      · have hv := (a2 m).1 (by rw [cnt_in m l hr]; exact hlow)
        rw [show getT [] m = none from rfl] at hv
        by_cases hex : ∃ p ∈ pairs l, p.2.f0 = m
        · rw [if_pos ⟨hex, hlow⟩, hv]
          rfl
        · rw [if_neg (fun h => hex h.1)]
          have : occ m (pairs l) = [] := by
            cases e : occ m (pairs l) with
            | nil => rfl
            | cons q r =>
              obtain ⟨p, hp, hm, _⟩ := mem_occ (show q ∈ occ m (pairs l) by rw [e]; exact List.mem_cons_self)
              exact absurd ⟨p, hp, hm⟩ hex
          rw [this, foldm] at hv
          exact Option.some.inj hv
theorem union_ref (l : List (List S36)) (hs : Small l) (ws : List Int) (agg : Int) (k : Nat) (hk : 2000 ≤ k) : palioref13_Union.f k l ws agg = some (madeF l ws agg 1) := by
  unfold palioref13_Union.f
  rw [all_ref l hs ws agg 1 k hk, Option.bind_some]
theorem inter_ref (l : List (List S36)) (hs : Small l) (ws : List Int) (agg : Int) (k : Nat) (hk : 2000 ≤ k) : palioref13_Inter.f k l ws agg = some (madeF l ws agg (leastI l)) := by
  unfold palioref13_Inter.f
  rw [all_ref l hs ws agg _ k hk, Option.bind_some]
  unfold leastI
  by_cases h : (l.length : Int) = 0
  · rw [if_pos h]
    have hb : setsB l = false := by unfold setsB; rw [decide_eq_false (by omega)]; rfl
    unfold madeF
    rw [if_neg (fun h => by rw [hb] at h; cases h.1), if_neg (fun h => by rw [hb] at h; cases h.1)]
  · rw [if_neg h]
theorem inN_cons (m : ByteArray) (x : List S36) (r : List (List S36)) : inN m (x :: r) = (if (findI x m).isSome = true then 1 else 0) + inN m r := rfl
theorem pairsF_cons (i : Nat) (x : List S36) (r : List (List S36)) : pairsF i (x :: r) = x.map (fun e => (i, e)) ++ pairsF (i + 1) r := rfl
theorem del_one (m : ByteArray) (i : Nat) (hi : 0 < i) : ∀ (y : List S36) (T : List (ByteArray × Int)), Apart T → Apart ((y.map (fun e => (i, e))).foldl delS T) ∧ getT ((y.map (fun e => (i, e))).foldl delS T) m = if (findI y m).isSome = true then none else getT T m
  | [], T, h => ⟨h, by rw [if_neg (by unfold findI; simp)]; rfl⟩
  | e :: r, T, h => by
    rw [List.map_cons, List.foldl_cons]
    have hd : delS T (i, e) = delT T e.f0 := by unfold delS; rw [if_pos hi]
    rw [hd]
    obtain ⟨h1, h2⟩ := del_one m i hi r (delT T e.f0) (h.del _)
    refine ⟨h1, ?_⟩
    rw [h2]
    by_cases hm : e.f0 = m
    · subst hm
      have e2 : (findI (e :: r) e.f0).isSome = true := by unfold findI; rw [List.findIdx?_cons]; simp
      rw [e2, if_pos rfl, get_del_same, ite_self]
    · have e2 : (findI (e :: r) m).isSome = (findI r m).isSome := by unfold findI; rw [List.findIdx?_cons, decide_eq_false hm, if_neg Bool.false_ne_true, Option.isSome_map]
      rw [e2, get_del_other T (Ne.symm hm)]
theorem del_all (m : ByteArray) : ∀ (r : List (List S36)) (i : Nat) (T : List (ByteArray × Int)), 0 < i → Apart T → Apart ((pairsF i r).foldl delS T) ∧ getT ((pairsF i r).foldl delS T) m = if 0 < inN m r then none else getT T m
  | [], i, T, hi, h => ⟨h, by rw [if_neg (by unfold inN; omega)]; rfl⟩
  | y :: r, i, T, hi, h => by
    rw [pairsF_cons, List.foldl_append]
    obtain ⟨a1, a2⟩ := del_one m i hi y T h
    obtain ⟨b1, b2⟩ := del_all m r (i + 1) _ (by omega) a1
    refine ⟨b1, ?_⟩
    rw [b2, a2, inN_cons]
    by_cases h1 : (findI y m).isSome = true
    · rw [if_pos h1, if_pos h1, ite_self, if_pos (by omega)]
    · rw [if_neg h1, if_neg h1, Nat.zero_add]
theorem right_sorted {x : List S36} (h : rightB x = true) : x.Pairwise (fun a b => leE a b = true) := by
  have ho := (rightB_iff x).1 h
  have key : ∀ (j i : Nat) (hij : i < j) (hj : j < x.length), lessE (x[i]'(by omega)) x[j] = true := by
    intro j
    induction j with
    | zero => intro i hij; omega
    | succ j ih =>
      intro i hij hj
      have h1 := (ho (j + 1) (by omega) hj).2 (by omega)
      rcases Nat.lt_or_ge i j with h2 | h2
      · exact lessE_trans _ _ _ (ih i h2 (by omega)) h1
      · obtain rfl : i = j := by omega
        exact h1
  refine List.pairwise_iff_getElem.2 (fun i j hi hj hij => ?_)
  unfold leE
  rw [lessE_asymm _ _ (key j i hij hj)]
  rfl
theorem get_tab {x : List S36} (h : ApartE x) (m : ByteArray) : getT (tabT x) m = getT (ents x) m := (ents_apart h).get_perm (tabT_perm h) m
/-- What is left of the first set. -/
theorem left_eq (x : List S36) (r : List (List S36)) (h : rightB x = true) : x.filter (fun e => decide (inN e.f0 (x :: r) = 1)) = sortT (leftT (x :: r)) := by
  have hx := right_apart h
  refine sorted_eq ((right_sorted h).filter _) ?_
  have hl : leftT (x :: r) = (pairsF 1 r).foldl delS (tabT x) := by
    unfold leftT pairs
    rw [pairsF_cons, List.foldl_append, delS_zero]
    rfl
  have hfa : ApartE (x.filter (fun e => decide (inN e.f0 (x :: r) = 1))) := List.Pairwise.filter _ hx
  have hp : (ents (x.filter (fun e => decide (inN e.f0 (x :: r) = 1)))).Perm (leftT (x :: r)) := by
    rw [hl]
    refine perm_of_get (ents_apart hfa) (del_all ⟨#[]⟩ r 1 _ (by omega) (tabT_apart _)).1 (fun m => ?_)
    rw [(del_all m r 1 _ (by omega) (tabT_apart _)).2, get_tab hx]
    refine Option.ext (fun v => ?_)
    rw [(ents_apart hfa).get]
    have hmem : ∀ z : List S36, (m, v) ∈ ents z ↔ (⟨m, v⟩ : S36) ∈ z := by
      intro z
      unfold ents
      rw [List.mem_map]
      constructor
      · rintro ⟨e, he, h2⟩
        injection h2 with h3 h4
        subst h3 h4
        exact he
      · intro he
        exact ⟨_, he, rfl⟩
    rw [hmem, List.mem_filter, decide_eq_true_eq]
    by_cases hn : 0 < inN m r
    · rw [if_pos hn]
      constructor
      · rintro ⟨h1, h2⟩
        dsimp only at h2
        rw [inN_cons] at h2
        have : (findI x m).isSome = true := by
          cases e : findI x m with
          | some j => rfl
          | none => exact absurd rfl (findI_none.1 e _ h1)
        rw [if_pos this] at h2
        omega
      · intro h2; cases h2
    · rw [if_neg hn, (ents_apart hx).get, hmem]
      constructor
      · exact fun h => h.1
      · intro h1
        refine ⟨h1, ?_⟩
        have : (findI x m).isSome = true := by
          cases e : findI x m with
          | some j => rfl
          | none => exact absurd rfl (findI_none.1 e _ h1)
        dsimp only
        rw [inN_cons, if_pos this]
        omega
  have := hp.map (fun p => (⟨p.1, p.2⟩ : S36))
  unfold ents at this
  rw [List.map_map] at this
  exact (List.Perm.of_eq (List.map_id _).symm).trans this
theorem diff_loop (x : List S36) (r : List (List S36)) (hs : Small (x :: r)) : ∀ (d j k : Nat) (acc : List S36), j ≤ x.length → x.length - j = d → acc.length ≤ j → d + 300 < k →
    palioref13_Diff.l0 k (x :: r) acc j = some (acc ++ (x.drop j).filter (fun e => decide (inN e.f0 (x :: r) = 1)), 0)
  | 0, j, k, acc, hj, hd, ha, hk => by
    obtain ⟨k, rfl⟩ : ∃ n, k = n + 1 := ⟨k - 1, by omega⟩
    have hl := hs.len
    have h0 : 0 < (x :: r).length := by rw [List.length_cons]; omega
    have e0 : rd_L3 (x :: r) 0 = x := rd3_get (j := 0) h0
    rw [show j = x.length by omega, List.drop_length, List.filter_nil, List.append_nil]
    unfold palioref13_Diff.l0
    rw [if_pos (by omega), e0, if_neg (by omega)]
  | d + 1, j, k, acc, hj, hd, ha, hk => by
    obtain ⟨k, rfl⟩ : ∃ n, k = n + 1 := ⟨k - 1, by omega⟩
    have hl := hs.len
    have hx := hs.each x List.mem_cons_self
    have h0 : 0 < (x :: r).length := by rw [List.length_cons]; omega
    have e0 : rd_L3 (x :: r) 0 = x := rd3_get (j := 0) h0
    have hjl : j < x.length := by omega
    unfold palioref13_Diff.l0
    rw [if_pos (by omega), e0, if_pos (by omega), if_pos (by omega), rd36_get hjl, in_ref _ hs _ k (by omega), Option.bind_some, List.drop_eq_getElem_cons hjl, List.filter_cons, wrap_succ j (by omega)]
    by_cases h1 : inN x[j].f0 (x :: r) = 1
    · rw [if_pos (by omega), if_pos (by omega), decide_eq_true h1, if_pos rfl, diff_loop x r hs d (j + 1) k _ (by omega) (by omega) (by rw [List.length_append, List.length_singleton]; omega) (by omega), List.append_assoc]
      rfl
    · rw [if_neg (by omega), decide_eq_false h1, if_neg Bool.false_ne_true, diff_loop x r hs d (j + 1) k _ (by omega) (by omega) (by omega) (by omega)]
theorem diff_ref (l : List (List S36)) (hs : Small l) (k : Nat) (hk : 2000 ≤ k) : palioref13_Diff.f k l = some (diffF l) := by
  have hl := hs.len
  unfold palioref13_Diff.f
  rw [if_pos (by omega), if_pos (by omega), rightAll_ref l hs _ 1 k (by omega), Option.bind_some]
  unfold diffF
  have hok : okB l (List.replicate ((l.length : Int)).toNat 0) 1 = setsB l := by
    unfold okB
    rw [List.length_replicate, Int.toNat_natCast, decide_eq_true rfl]
    simp
  rw [hok]
  cases hb : setsB l with
  | false => rw [if_neg Bool.false_ne_true, if_neg Bool.false_ne_true]
  | true =>
    rw [if_pos rfl, if_pos rfl]
    cases l with
    | nil => unfold setsB at hb; simp at hb
    | cons x r =>
      have hx := hs.each x List.mem_cons_self
      have := diff_loop x r hs x.length 0 k [] (by omega) (by omega) (by simp) (by omega)
      rw [List.drop_zero, List.nil_append, show ((0 : Nat) : Int) = 0 from rfl, left_eq x r (sets_apart hb x List.mem_cons_self)] at this
      exact this
end Go.Proofs.YtidhbpfkiapcjaaDoor.Pure
namespace Go.Proofs.YtidhbpfkiapcjaaDoor.P
open Go Go.RowKit Go.Proofs.YtidhbpfkiapcjaaDoorW.PrintWords Go.Proofs.YtidhbpfkiapcjaaDoorW.PrintLast Go.Proofs.YtidhbpfkiapcjaaDoorW.PrintMore Go.Proofs.YtidhbpfkiapcjaaDoor.Pure

theorem makes_true (l : List (List S36)) (s : Bool) (ws : List Int) (agg : Int) (hl : ∀ x ∈ l, ∀ e ∈ x, W64 e.f1) (hw : okW ws agg = true) : paliolaw13_AlgebraMakes.f 10000 l s ws agg = some true := by
  have hs := few_small l s hl
  have ho := okL_small hs
  unfold paliolaw13_AlgebraMakes.f
  rw [shown_true 10000 (by omega), Option.bind_some, few_ref l s 10000 (by omega), Option.bind_some]
  generalize fewL l s = f at hs ho
  unfold algebra_Union.f algebra_Inter.f algebra_Diff.f
  rw [ho, hw, Bool.and_self, if_pos rfl, if_pos rfl, if_pos rfl, Option.bind_some, union_ref f hs ws agg 10000 (by omega), Option.bind_some, Option.bind_some, inter_ref f hs ws agg 10000 (by omega), Option.bind_some, Option.bind_some, diff_ref f hs 10000 (by omega), Option.bind_some, if_pos rfl]
  have h1 := madeF_len hs ws agg 1
  have h2 := madeF_len hs ws agg (leastI f)
  have h3 := diffF_len hs
  rw [same_ref _ _ (by omega) 10000 (by omega), Option.bind_some, decide_eq_true rfl, if_pos rfl, if_pos rfl, same_ref _ _ (by omega) 10000 (by omega), Option.bind_some, decide_eq_true rfl, if_pos rfl, if_pos rfl, same_ref _ _ (by omega) 10000 (by omega), Option.bind_some, decide_eq_true rfl, if_pos rfl, beq_self_eq_true]
theorem makes_calls (l : List (List S36)) (hl : ∀ x ∈ l, ∀ e ∈ x, W64 e.f1) (s : Bool) (ws : List Int) (agg : Int) (hw : okW ws agg = true) (A : Option Addr) (c : Nat) (hc : l.length ≤ c) (B : Option Addr) (d : Nat) (hd : ws.length ≤ d) (p q : Addr) (w : World) (hG : G2 p q w) (hC : Kd.C (Kd.slice 36 k36) w A l.length l) (hD : Kd.C (Kd.int .i64) w B ws.length ws) :
    Calls Tryd.prog 3 #[.slice A l.length c, .bool s, .slice B ws.length d, .int .i64 agg] w fun e w' => e = .returned (.bool true) ∧ Below w.heap.size w w' :=
  paliolaw13_AlgebraMakes.callsT (p := p) (q := q) 10000 A c l s B d ws agg true rfl w hC hc hD hd hG (makes_true l s ws agg hl hw)
end Go.Proofs.YtidhbpfkiapcjaaDoor.P
