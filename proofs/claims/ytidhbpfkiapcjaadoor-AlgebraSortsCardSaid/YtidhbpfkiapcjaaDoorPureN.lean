/- The document's Right, in plain words: what the program's is. Conditions: that the entries are few, of short members. -/
import Derived.Test.YtidhbpfkiapcjaaDoorMG
import Derived.Test.YtidhbpfkiapcjaaDoorPy5ra
namespace Go.Proofs.YtidhbpfkiapcjaaDoor.Pure
open Go Go.RowKit Go.Proofs.YtidhbpfkiapcjaaDoorW.PrintWords Go.Proofs.YtidhbpfkiapcjaaDoorW.PrintLast Go.Proofs.YtidhbpfkiapcjaaDoorW.PrintMore Go.Proofs.YtidhbpfkiapcjaaDoor.P

theorem put_len_has {T : List (ByteArray × Int)} {m : ByteArray} {v : Int} (h : ∃ p ∈ T, p.1 = m) : (putT T m v).length ≤ T.length := by
  obtain ⟨p, hp, rfl⟩ := h
  unfold putT
  rw [List.length_cons]
  have : (T.filter (fun q => !decide (q.1 = p.1))).length < T.length := by
    rcases Nat.lt_or_ge (T.filter (fun q => !decide (q.1 = p.1))).length T.length with h | h
    · exact h
    · have e := List.length_filter_eq_length_iff.1 (Nat.le_antisymm (List.length_filter_le _ _) h) p hp
      simp at e
  omega
theorem tab_len_apart : ∀ (l : List S36) (T : List (ByteArray × Int)), (l.foldl (fun T e => putT T e.f0 e.f1) T).length = T.length + l.length → ApartE l ∧ ∀ e ∈ l, ∀ p ∈ T, p.1 ≠ e.f0
  | [], T, _ => ⟨List.Pairwise.nil, fun _ he => by cases he⟩
  | x :: r, T, h => by
    rw [List.foldl_cons, List.length_cons] at h
    have h1 := tabT_len r (putT T x.f0 x.f1)
    have h2 := put_len T x.f0 x.f1
    have hn : ∀ p ∈ T, p.1 ≠ x.f0 := fun p hp e => by
      have := put_len_has (v := x.f1) ⟨p, hp, e⟩
      omega
    obtain ⟨h3, h4⟩ := tab_len_apart r (putT T x.f0 x.f1) (by omega)
    refine ⟨List.Pairwise.cons (fun e he => ?_) h3, fun e he p hp => ?_⟩
    · exact h4 e he (x.f0, x.f1) List.mem_cons_self
    · rcases List.mem_cons.1 he with rfl | he
      · exact hn p hp
      · refine h4 e he p (List.mem_cons_of_mem _ (mem_del.2 ⟨hp, hn p hp⟩))
theorem tab_apart_iff (l : List S36) : (tabT l).length = l.length ↔ ApartE l := by
  constructor
  · intro h
    exact (tab_len_apart l [] (by rw [List.length_nil, Nat.zero_add]; exact h)).1
  · intro h
    rw [(tabT_perm h).length_eq, List.length_map]
theorem findI_self {l : List S36} (h : ApartE l) {i : Nat} (hi : i < l.length) : findI l l[i].f0 = some i := by
  cases e : findI l l[i].f0 with
  | none => exact absurd rfl (findI_none.1 e _ (List.getElem_mem hi))
  | some j =>
    obtain ⟨hj, hm⟩ := findI_some e
    rcases Nat.lt_trichotomy i j with h1 | h1 | h1
    · exact absurd hm.symm (List.pairwise_iff_getElem.1 h i j hi hj h1)
    · rw [h1]
    · exact absurd hm (List.pairwise_iff_getElem.1 h j i hj hi h1)
/-- From i on all is right. -/
def okFrom (l : List S36) (i : Nat) : Prop := ∀ j, i ≤ j → ∀ hj : j < l.length, findI l l[j].f0 = some j ∧ ∀ h0 : 0 < j, lessE (l[j - 1]'(by omega)) l[j] = true
theorem downS_iff (l : List S36) : ∀ n, n < l.length → (downS l n = true ↔ ∀ j, 0 < j → j ≤ n → ∀ hj : j < l.length, lessE l[j] (l[j - 1]'(by omega)) = false)
  | 0, _ => by
    unfold downS
    exact ⟨fun _ j h0 h1 => absurd h0 (by omega), fun _ => rfl⟩
  | n + 1, hn => by
    unfold downS
    rw [Bool.and_eq_true, downS_iff l n (by omega), rd36_get hn, rd36_get (show n < l.length by omega), Bool.not_eq_true']
    constructor
    · rintro ⟨h1, h2⟩ j h0 hj hjl
      rcases Nat.lt_or_ge n j with h | h
      · obtain rfl : j = n + 1 := by omega
        exact h1
      · exact h2 j h0 h hjl
    · intro h
      exact ⟨h (n + 1) (by omega) (Nat.le_refl _) hn, fun j h0 hj hjl => h j h0 (by omega) hjl⟩
theorem rightB_iff (l : List S36) : rightB l = true ↔ okFrom l 0 := by
  unfold rightB
  rw [Bool.and_eq_true, decide_eq_true_eq, tab_apart_iff]
  constructor
  · rintro ⟨h1, h2⟩ j _ hj
    refine ⟨findI_self h1 hj, fun h0 => ?_⟩
    have hd := (downS_iff l (l.length - 1) (by omega)).1 h2 j h0 (by omega) hj
    have hne := List.pairwise_iff_getElem.1 h1 (j - 1) j (by omega) hj (by omega)
    cases e : lessE (l[j - 1]'(by omega)) l[j] with
    | true => rfl
    | false => exact absurd (by rw [lessE_tri _ _ e hd]) hne
  · intro h
    refine ⟨?_, ?_⟩
    · refine List.pairwise_iff_getElem.2 (fun i j hi hj hij e => ?_)
      have h1 := (h i (by omega) hi).1
      have h2 := (h j (by omega) hj).1
      rw [e, h2] at h1
      injection h1 with h1
      omega
    · rcases Nat.eq_zero_or_pos l.length with h0 | h0
      · rw [h0]; rfl
      · rw [downS_iff l (l.length - 1) (by omega)]
        intro j hj0 _ hj
        exact lessE_asymm _ _ ((h j (by omega) hj).2 hj0)
theorem right_loop (l : List S36) (hl : l.length ≤ 1000) (hs : ∀ e ∈ l, e.f0.size ≤ 10) : ∀ (d i k : Nat), i ≤ l.length → l.length - i = d → d + l.length + 40 < k → ∃ r, palioref13_Right.l0 k l i = some r ∧ (r = true ↔ okFrom l i)
  | 0, i, k, hi, hd, hk => by
    obtain ⟨k, rfl⟩ : ∃ n, k = n + 1 := ⟨k - 1, by omega⟩
    refine ⟨true, ?_, ⟨fun _ j hj hjl => absurd hjl (by omega), fun _ => rfl⟩⟩
    unfold palioref13_Right.l0
    rw [if_neg (by omega)]
  | d + 1, i, k, hi, hd, hk => by
    obtain ⟨k, rfl⟩ : ∃ n, k = n + 1 := ⟨k - 1, by omega⟩
    have hil : i < l.length := by omega
    obtain ⟨r, hr, hiff⟩ := right_loop l hl hs d (i + 1) k (by omega) (by omega) (by omega)
    have hsz := fun (j : Nat) (hj : j < l.length) => hs l[j] (List.getElem_mem hj)
    have hfind := find_ref l l[i].f0 (by omega) k (by omega)
    have hnext : ∀ c : Prop, (c ↔ (findI l l[i].f0 = some i ∧ ∀ h0 : 0 < i, lessE (l[i - 1]'(by omega)) l[i] = true)) → (okFrom l i ↔ c ∧ okFrom l (i + 1)) := by
      intro c hc
      rw [hc]
      constructor
      · intro h
        exact ⟨h i (Nat.le_refl _) hil, fun j hj hjl => h j (by omega) hjl⟩
      · rintro ⟨h1, h2⟩ j hj hjl
        rcases Nat.lt_or_ge i j with h | h
        · exact h2 j (by omega) hjl
        · obtain rfl : j = i := by omega
          exact h1
    have hstep : ∀ (c : Prop), (c ↔ ∀ h0 : 0 < i, lessE (l[i - 1]'(by omega)) l[i] = true) → c → ∃ r', (some (encF (findI l l[i].f0))).bind (fun t109 => if t109 = (i : Int) then palioref13_Right.l0 k l (wrap64 ((i : Int) + 1)) else some false) = some r' ∧ (r' = true ↔ okFrom l i) := by
      intro c hc hcc
      rw [Option.bind_some]
      by_cases hf : findI l l[i].f0 = some i
      · rw [hf, show encF (some i) = (i : Int) from rfl, if_pos rfl, wrap_succ i (by omega)]
        refine ⟨r, hr, ?_⟩
        rw [hnext True ⟨fun _ => ⟨hf, hc.1 hcc⟩, fun _ => trivial⟩, hiff]
        exact ⟨fun h => ⟨trivial, h⟩, fun h => h.2⟩
      · have hne : encF (findI l l[i].f0) ≠ (i : Int) := by
          cases e : findI l l[i].f0 with
          | none => simp [encF]
          | some j =>
            rw [e] at hf
            show (j : Int) ≠ (i : Int)
            intro h
            exact hf (by rw [show j = i by omega])
        rw [if_neg hne]
        refine ⟨false, rfl, ⟨fun h => (by cases h), fun h => absurd (h i (Nat.le_refl _) hil).1 hf⟩⟩
    unfold palioref13_Right.l0
    rw [if_pos (by omega)]
    by_cases h0 : 0 < i
    · have hw : wrap64 ((i : Int) - 1) = ((i - 1 : Nat) : Int) := by unfold wrap64; omega
      rw [if_pos (by omega), hw, if_pos (by omega), if_pos (by omega), if_pos (by omega), rd36_get hil, rd36_get (show i - 1 < l.length by omega), ahead_ref _ _ _ _ (by have := hsz (i - 1) (by omega); omega) k (by have := hsz (i - 1) (by omega); omega), Option.bind_some]
      by_cases hls : lessE (l[i - 1]'(by omega)) l[i] = true
      · rw [if_pos (show ahead _ _ _ _ = true from hls), hfind]
        exact hstep True ⟨fun _ _ => hls, fun _ => trivial⟩ trivial
      · rw [if_neg (show ¬ ahead _ _ _ _ = true from hls)]
        exact ⟨false, rfl, ⟨fun h => (by cases h), fun h => absurd ((h i (Nat.le_refl _) hil).2 h0) hls⟩⟩
    · rw [if_neg (by omega), if_pos (by omega), rd36_get hil, hfind]
      exact hstep True ⟨fun _ h => absurd h h0, fun _ => trivial⟩ trivial
theorem right_ref (l : List S36) (hl : l.length ≤ 1000) (hs : ∀ e ∈ l, e.f0.size ≤ 10) (k : Nat) (hk : 2 * l.length + 40 < k) : palioref13_Right.f k l = some (rightB l) := by
  obtain ⟨r, hr, hiff⟩ := right_loop l hl hs l.length 0 k (by omega) (by omega) (by omega)
  unfold palioref13_Right.f
  rw [show ((0 : Nat) : Int) = 0 from rfl] at hr
  rw [hr]
  congr 1
  rw [Bool.eq_iff_iff, hiff, rightB_iff]
end Go.Proofs.YtidhbpfkiapcjaaDoor.Pure
