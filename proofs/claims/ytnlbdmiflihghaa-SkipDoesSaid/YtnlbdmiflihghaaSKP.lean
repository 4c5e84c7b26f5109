/- Positions of a list of levels, in plain Lean: the next one of a level, the last one up to a place; what putting one in and taking one out make of them. Conditions: each theorem names its own. -/
namespace Go.Proofs.Ytnlbdmiflihghaa.SK

/-- Position q (from 1 on) is on level i. -/
def V (lv : List Nat) (i q : Nat) : Prop := 1 ≤ q ∧ i < lv.getD (q - 1) 0
instance (lv : List Nat) (i q : Nat) : Decidable (V lv i q) := inferInstanceAs (Decidable (_ ∧ _))
theorem V_le {lv : List Nat} {i q : Nat} (h : V lv i q) : q ≤ lv.length := by
  rcases Nat.lt_or_ge (q - 1) lv.length with h1 | h1
  · have := h.1; omega
  · have h2 := h.2
    rw [List.getD_eq_getElem?_getD, List.getElem?_eq_none h1] at h2
    simp at h2
/-- The next position on a level behind p, and how far it is; none: how many are behind p. -/
def Nx (lv : List Nat) (i p : Nat) (o : Option Nat) (s : Int) : Prop :=
  match o with
  | some q => p < q ∧ V lv i q ∧ (∀ r, p < r → r < q → ¬ V lv i r) ∧ s = (q : Int) - p
  | none => (∀ r, p < r → ¬ V lv i r) ∧ s = (lv.length : Int) - p
/-- The last position on a level up to place k (0: none). -/
def prevP (lv : List Nat) (i : Nat) : Nat → Nat
  | 0 => 0
  | k + 1 => if V lv i (k + 1) then k + 1 else prevP lv i k
structure Prev (lv : List Nat) (i k p : Nat) : Prop where
  le : p ≤ k
  on : p = 0 ∨ V lv i p
  no : ∀ r, p < r → r ≤ k → ¬ V lv i r
theorem prevP_spec (lv : List Nat) (i : Nat) : ∀ k, Prev lv i k (prevP lv i k)
  | 0 => ⟨Nat.le_refl _, .inl rfl, fun r h1 h2 => by simp [prevP] at h1; omega⟩
  | k + 1 => by
    rw [prevP]
    by_cases h : V lv i (k + 1)
    · rw [if_pos h]
      exact ⟨Nat.le_refl _, .inr h, fun r h1 h2 => by omega⟩
    · rw [if_neg h]
      have := prevP_spec lv i k
      refine ⟨Nat.le_succ_of_le this.le, this.on, fun r h1 h2 => ?_⟩
      rcases Nat.lt_or_ge k r with h3 | h3
      · obtain rfl : r = k + 1 := by omega
        exact h
      · exact this.no r h1 h3
theorem Prev.unique {lv : List Nat} {i k p q : Nat} (h : Prev lv i k p) (h' : Prev lv i k q) : p = q := by
  rcases Nat.lt_trichotomy p q with h1 | h1 | h1
  · rcases h'.on with h2 | h2
    · omega
    · exact absurd h2 (h.no q h1 h'.le)
  · exact h1
  · rcases h.on with h2 | h2
    · omega
    · exact absurd h2 (h'.no p h1 h.le)
/-- One step along a level, or the end of it. -/
theorem step_path {lv : List Nat} {i k p : Nat} {o : Option Nat} {s : Int} (_hk : k ≤ lv.length) (hp : p ≤ k) (hon : p = 0 ∨ V lv i p) (h : Nx lv i p o s) :
    (∃ q, o = some q ∧ q ≤ k ∧ p < q ∧ V lv i q ∧ (p : Int) + s = q) ∨ ((∀ q, o = some q → k < q ∧ (p : Int) + s = q) ∧ prevP lv i k = p) := by
  cases o with
  | none =>
    obtain ⟨h1, h2⟩ := h
    exact .inr ⟨(fun q hq => by cases hq), (prevP_spec lv i k).unique ⟨hp, hon, fun r hr _ => h1 r hr⟩⟩
  | some q =>
    obtain ⟨h1, h2, h3, h4⟩ := h
    rcases Nat.lt_or_ge k q with h5 | h5
    · exact .inr ⟨fun q' hq => by cases hq; exact ⟨h5, by omega⟩, (prevP_spec lv i k).unique ⟨hp, hon, fun r hr hr2 => h3 r hr (by omega)⟩⟩
    · exact .inl ⟨q, rfl, h5, h1, h2, by omega⟩
/-! ### putting one in -/
def ins (lv : List Nat) (k h : Nat) : List Nat := lv.take k ++ h :: lv.drop k
theorem ins_length (lv : List Nat) (k h : Nat) : (ins lv k h).length = lv.length + 1 := by
  unfold ins
  rw [List.length_append, List.length_cons, List.length_take, List.length_drop]
  omega
theorem ins_get (lv : List Nat) (k h j : Nat) (hk : k ≤ lv.length) : (ins lv k h).getD j 0 = if j < k then lv.getD j 0 else if j = k then h else lv.getD (j - 1) 0 := by
  unfold ins
  simp only [List.getD_eq_getElem?_getD]
  by_cases h1 : j < k
  · rw [if_pos h1, List.getElem?_append_left (by rw [List.length_take]; omega), List.getElem?_take_of_lt h1]
  · rw [if_neg h1, List.getElem?_append_right (by rw [List.length_take]; omega), List.length_take, Nat.min_eq_left hk]
    by_cases h2 : j = k
    · subst h2
      simp
    · rw [if_neg h2]
      obtain ⟨m, rfl⟩ : ∃ m, j = k + 1 + m := ⟨j - (k + 1), by omega⟩
      rw [show k + 1 + m - k = m + 1 by omega, List.getElem?_cons_succ, List.getElem?_drop, show k + 1 + m - 1 = k + m by omega]
theorem V_ins {lv : List Nat} {k h i q : Nat} (hk : k ≤ lv.length) : V (ins lv k h) i q ↔ (q ≤ k ∧ V lv i q) ∨ (q = k + 1 ∧ i < h) ∨ (k + 2 ≤ q ∧ V lv i (q - 1)) := by
  unfold V
  rw [ins_get lv k h (q - 1) hk]
  by_cases h1 : q - 1 < k
  · rw [if_pos h1]
    constructor
    · intro ⟨a, b⟩
      exact .inl ⟨by omega, a, b⟩
    · rintro (⟨a, b⟩ | ⟨a, b⟩ | ⟨a, b⟩)
      · exact b
      · omega
      · omega
  · rw [if_neg h1]
    by_cases h2 : q - 1 = k
    · rw [if_pos h2]
      constructor
      · intro ⟨a, b⟩
        exact .inr (.inl ⟨by omega, b⟩)
      · rintro (⟨a, b⟩ | ⟨a, b⟩ | ⟨a, b⟩)
        · omega
        · exact ⟨by omega, b⟩
        · omega
    · rw [if_neg h2]
      constructor
      · intro ⟨a, b⟩
        exact .inr (.inr ⟨by omega, by omega, b⟩)
      · rintro (⟨a, b⟩ | ⟨a, b⟩ | ⟨a, b⟩)
        · omega
        · omega
        · exact ⟨by omega, b.2⟩
/-- Where an elder position is behind the putting in. -/
def upS (k p : Nat) : Nat := if p ≤ k then p else p + 1
theorem up_le {k p : Nat} (h : p ≤ k) : upS k p = p := if_pos h
theorem up_gt {k p : Nat} (h : k < p) : upS k p = p + 1 := if_neg (by omega)
theorem V_up {lv : List Nat} {k h i q : Nat} (hk : k ≤ lv.length) : V (ins lv k h) i (upS k q) ↔ V lv i q := by
  rw [V_ins hk]
  unfold upS
  by_cases h1 : q ≤ k
  · rw [if_pos h1]
    constructor
    · rintro (⟨a, b⟩ | ⟨a, b⟩ | ⟨a, b⟩)
      · exact b
      · omega
      · omega
    · exact fun hv => .inl ⟨h1, hv⟩
  · rw [if_neg h1]
    constructor
    · rintro (⟨a, b⟩ | ⟨a, b⟩ | ⟨a, b⟩)
      · omega
      · omega
      · exact b
    · exact fun hv => .inr (.inr ⟨by omega, hv⟩)
/-- A position behind the place keeps its link. -/
theorem ins_behind {lv : List Nat} {k h i p : Nat} {o : Option Nat} {s : Int} (hk : k ≤ lv.length) (hp : k < p) (hn : Nx lv i p o s) : Nx (ins lv k h) i (p + 1) (o.map (upS k)) s := by
  cases o with
  | none =>
    obtain ⟨h1, h2⟩ := hn
    refine ⟨fun r hr hv => ?_, by rw [ins_length]; omega⟩
    rcases (V_ins hk).mp hv with ⟨a, b⟩ | ⟨a, b⟩ | ⟨a, b⟩
    · omega
    · omega
    · exact h1 (r - 1) (by omega) b
  | some q =>
    obtain ⟨h1, h2, h3, h4⟩ := hn
    have hq : upS k q = q + 1 := up_gt (by omega)
    show p + 1 < upS k q ∧ V (ins lv k h) i (upS k q) ∧ _ ∧ s = ((upS k q : Nat) : Int) - ((p + 1 : Nat) : Int)
    refine ⟨by omega, (V_up hk).mpr h2, fun r hr hr2 hv => ?_, by omega⟩
    rcases (V_ins hk).mp hv with ⟨a, b⟩ | ⟨a, b⟩ | ⟨a, b⟩
    · omega
    · omega
    · exact h3 (r - 1) (by omega) (by omega) b
/-- A position ahead of the last one up to the place keeps its link. -/
theorem ins_ahead {lv : List Nat} {k h i p : Nat} {o : Option Nat} {s : Int} (hk : k ≤ lv.length) (hp : p < prevP lv i k) (hn : Nx lv i p o s) : Nx (ins lv k h) i p (o.map (upS k)) s := by
  have hs := prevP_spec lv i k
  have hv0 : V lv i (prevP lv i k) := by
    rcases hs.on with h1 | h1
    · omega
    · exact h1
  cases o with
  | none => exact absurd hv0 (hn.1 _ hp)
  | some q =>
    obtain ⟨h1, h2, h3, h4⟩ := hn
    have hle := hs.le
    have hqk : q ≤ prevP lv i k := by
      rcases Nat.lt_or_ge (prevP lv i k) q with h5 | h5
      · exact absurd hv0 (h3 _ hp h5)
      · exact h5
    have hq : upS k q = q := up_le (by omega)
    show p < upS k q ∧ V (ins lv k h) i (upS k q) ∧ _ ∧ s = ((upS k q : Nat) : Int) - (p : Int)
    refine ⟨by omega, (V_up hk).mpr h2, fun r hr hr2 hv => ?_, by omega⟩
    rcases (V_ins hk).mp hv with ⟨a, b⟩ | ⟨a, b⟩ | ⟨a, b⟩
    · exact h3 r hr (by omega) b
    · omega
    · omega
/-- The last position up to the place, on a level of the new one: it leads to the new one. -/
theorem ins_at_low {lv : List Nat} {k h i : Nat} (hk : k ≤ lv.length) (hi : i < h) : Nx (ins lv k h) i (prevP lv i k) (some (k + 1)) ((k : Int) - prevP lv i k + 1) := by
  have hs := prevP_spec lv i k
  have hle := hs.le
  refine ⟨by omega, (V_ins hk).mpr (.inr (.inl ⟨rfl, hi⟩)), fun r hr hr2 hv => ?_, by omega⟩
  rcases (V_ins hk).mp hv with ⟨a, b⟩ | ⟨a, b⟩ | ⟨a, b⟩
  · exact hs.no r hr (by omega) b
  · omega
  · omega
/-- .. on a level above the new one: one further. -/
theorem ins_at_high {lv : List Nat} {k h i : Nat} {o : Option Nat} {s : Int} (hk : k ≤ lv.length) (hi : h ≤ i) (hn : Nx lv i (prevP lv i k) o s) : Nx (ins lv k h) i (prevP lv i k) (o.map (upS k)) (s + 1) := by
  have hs := prevP_spec lv i k
  have hle := hs.le
  cases o with
  | none =>
    obtain ⟨h1, h2⟩ := hn
    refine ⟨fun r hr hv => ?_, by rw [ins_length]; omega⟩
    rcases (V_ins hk).mp hv with ⟨a, b⟩ | ⟨a, b⟩ | ⟨a, b⟩
    · exact h1 r hr b
    · omega
    · exact h1 (r - 1) (by omega) b
  | some q =>
    obtain ⟨h1, h2, h3, h4⟩ := hn
    have hqk : k < q := by
      rcases Nat.lt_or_ge k q with h5 | h5
      · exact h5
      · exact absurd h2 (hs.no q h1 h5)
    have hq : upS k q = q + 1 := up_gt hqk
    show prevP lv i k < upS k q ∧ V (ins lv k h) i (upS k q) ∧ _ ∧ s + 1 = ((upS k q : Nat) : Int) - ((prevP lv i k : Nat) : Int)
    refine ⟨by omega, (V_up hk).mpr h2, fun r hr hr2 hv => ?_, by omega⟩
    rcases (V_ins hk).mp hv with ⟨a, b⟩ | ⟨a, b⟩ | ⟨a, b⟩
    · exact h3 r hr (by omega) b
    · omega
    · exact h3 (r - 1) (by omega) (by omega) b
/-- The new one's own link. -/
theorem ins_new {lv : List Nat} {k h i : Nat} {o : Option Nat} {s : Int} (hk : k ≤ lv.length) (hn : Nx lv i (prevP lv i k) o s) : Nx (ins lv k h) i (k + 1) (o.map (upS k)) (s - ((k : Int) - prevP lv i k)) := by
  have hs := prevP_spec lv i k
  have hle := hs.le
  cases o with
  | none =>
    obtain ⟨h1, h2⟩ := hn
    refine ⟨fun r hr hv => ?_, by rw [ins_length]; omega⟩
    rcases (V_ins hk).mp hv with ⟨a, b⟩ | ⟨a, b⟩ | ⟨a, b⟩
    · omega
    · omega
    · exact h1 (r - 1) (by omega) b
  | some q =>
    obtain ⟨h1, h2, h3, h4⟩ := hn
    have hqk : k < q := by
      rcases Nat.lt_or_ge k q with h5 | h5
      · exact h5
      · exact absurd h2 (hs.no q h1 h5)
    have hq : upS k q = q + 1 := up_gt hqk
    show k + 1 < upS k q ∧ V (ins lv k h) i (upS k q) ∧ _ ∧ s - ((k : Int) - prevP lv i k) = ((upS k q : Nat) : Int) - ((k + 1 : Nat) : Int)
    refine ⟨by omega, (V_up hk).mpr h2, fun r hr hr2 hv => ?_, by omega⟩
    rcases (V_ins hk).mp hv with ⟨a, b⟩ | ⟨a, b⟩ | ⟨a, b⟩
    · omega
    · omega
    · exact h3 (r - 1) (by omega) (by omega) b
/-! ### taking one out: position k + 1 -/
theorem del_get (lv : List Nat) (k j : Nat) : (lv.eraseIdx k).getD j 0 = if j < k then lv.getD j 0 else lv.getD (j + 1) 0 := by
  simp only [List.getD_eq_getElem?_getD, List.getElem?_eraseIdx]
  by_cases h : j < k
  · rw [if_pos h, if_pos h]
  · rw [if_neg h, if_neg h]
theorem V_del {lv : List Nat} {k i q : Nat} : V (lv.eraseIdx k) i q ↔ (q ≤ k ∧ V lv i q) ∨ (k < q ∧ V lv i (q + 1)) := by
  unfold V
  rw [del_get]
  by_cases h : q - 1 < k
  · rw [if_pos h]
    constructor
    · exact fun ⟨a, b⟩ => .inl ⟨by omega, a, b⟩
    · rintro (⟨a, b⟩ | ⟨a, b⟩)
      · exact b
      · omega
  · rw [if_neg h]
    constructor
    · intro ⟨a, b⟩
      rw [show q - 1 + 1 = q + 1 - 1 by omega] at b
      exact .inr ⟨by omega, by omega, b⟩
    · rintro (⟨a, b⟩ | ⟨a, b⟩)
      · have := b.1
        omega
      · refine ⟨by omega, ?_⟩
        rw [show q - 1 + 1 = q + 1 - 1 by omega]
        exact b.2
/-- Where an elder position (not k + 1) is behind the taking out. -/
def dnS (k p : Nat) : Nat := if p ≤ k then p else p - 1
theorem dn_le {k p : Nat} (h : p ≤ k) : dnS k p = p := if_pos h
theorem dn_gt {k p : Nat} (h : k < p) : dnS k p = p - 1 := if_neg (by omega)
theorem V_dn {lv : List Nat} {k i q : Nat} (hq : q ≠ k + 1) : V (lv.eraseIdx k) i (dnS k q) ↔ V lv i q := by
  rw [V_del]
  unfold dnS
  by_cases h1 : q ≤ k
  · rw [if_pos h1]
    constructor
    · rintro (⟨a, b⟩ | ⟨a, b⟩)
      · exact b
      · omega
    · exact fun hv => .inl ⟨h1, hv⟩
  · rw [if_neg h1]
    constructor
    · rintro (⟨a, b⟩ | ⟨a, b⟩)
      · omega
      · rwa [show q - 1 + 1 = q by omega] at b
    · exact fun hv => .inr ⟨by omega, by rwa [show q - 1 + 1 = q by omega]⟩
theorem del_length {lv : List Nat} {k : Nat} (hk : k < lv.length) : (lv.eraseIdx k).length = lv.length - 1 := by rw [List.length_eraseIdx, if_pos hk]
theorem del_behind {lv : List Nat} {k i p : Nat} {o : Option Nat} {s : Int} (hk : k < lv.length) (hp : k + 1 < p) (hn : Nx lv i p o s) : Nx (lv.eraseIdx k) i (p - 1) (o.map (dnS k)) s := by
  cases o with
  | none =>
    obtain ⟨h1, h2⟩ := hn
    refine ⟨fun r hr hv => ?_, by rw [del_length hk]; omega⟩
    rcases V_del.mp hv with ⟨a, b⟩ | ⟨a, b⟩
    · omega
    · exact h1 (r + 1) (by omega) b
  | some q =>
    obtain ⟨h1, h2, h3, h4⟩ := hn
    have hq : dnS k q = q - 1 := dn_gt (by omega)
    show p - 1 < dnS k q ∧ V (lv.eraseIdx k) i (dnS k q) ∧ _ ∧ s = ((dnS k q : Nat) : Int) - ((p - 1 : Nat) : Int)
    refine ⟨by omega, (V_dn (by omega)).mpr h2, fun r hr hr2 hv => ?_, by omega⟩
    rcases V_del.mp hv with ⟨a, b⟩ | ⟨a, b⟩
    · omega
    · exact h3 (r + 1) (by omega) (by omega) b
theorem del_ahead {lv : List Nat} {k i p : Nat} {o : Option Nat} {s : Int} (hp : p < prevP lv i k) (hn : Nx lv i p o s) : Nx (lv.eraseIdx k) i p (o.map (dnS k)) s := by
  have hs := prevP_spec lv i k
  have hv0 : V lv i (prevP lv i k) := by
    rcases hs.on with h1 | h1
    · omega
    · exact h1
  cases o with
  | none => exact absurd hv0 (hn.1 _ hp)
  | some q =>
    obtain ⟨h1, h2, h3, h4⟩ := hn
    have hle := hs.le
    have hqk : q ≤ prevP lv i k := by
      rcases Nat.lt_or_ge (prevP lv i k) q with h5 | h5
      · exact absurd hv0 (h3 _ hp h5)
      · exact h5
    have hq : dnS k q = q := dn_le (by omega)
    show p < dnS k q ∧ V (lv.eraseIdx k) i (dnS k q) ∧ _ ∧ s = ((dnS k q : Nat) : Int) - (p : Int)
    refine ⟨by omega, (V_dn (by omega)).mpr h2, fun r hr hr2 hv => ?_, by omega⟩
    rcases V_del.mp hv with ⟨a, b⟩ | ⟨a, b⟩
    · exact h3 r hr (by omega) b
    · omega
/-- The last position up to the place, on a level of the one that goes: it leads where that one led. -/
theorem del_at_low {lv : List Nat} {k i : Nat} {o o' : Option Nat} {s s' : Int} (hk : k < lv.length) (hi : V lv i (k + 1)) (hn : Nx lv i (prevP lv i k) o s) (hx : Nx lv i (k + 1) o' s') :
    o = some (k + 1) ∧ Nx (lv.eraseIdx k) i (prevP lv i k) (o'.map (dnS k)) (s + s' - 1) := by
  have hs := prevP_spec lv i k
  have hle := hs.le
  have ho : o = some (k + 1) ∧ s = ((k + 1 : Nat) : Int) - prevP lv i k := by
    cases o with
    | none => exact absurd hi (hn.1 _ (by omega))
    | some q =>
      obtain ⟨h1, h2, h3, h4⟩ := hn
      have : q = k + 1 := by
        rcases Nat.lt_trichotomy q (k + 1) with h5 | h5 | h5
        · exact absurd h2 (hs.no q h1 (by omega))
        · exact h5
        · exact absurd hi (h3 _ (by omega) h5)
      subst this
      exact ⟨rfl, h4⟩
  refine ⟨ho.1, ?_⟩
  have hse := ho.2
  cases o' with
  | none =>
    obtain ⟨h1, h2⟩ := hx
    refine ⟨fun r hr hv => ?_, by rw [del_length hk]; omega⟩
    rcases V_del.mp hv with ⟨a, b⟩ | ⟨a, b⟩
    · exact hs.no r hr a b
    · exact h1 (r + 1) (by omega) b
  | some q =>
    obtain ⟨h1, h2, h3, h4⟩ := hx
    have hq : dnS k q = q - 1 := dn_gt (by omega)
    show prevP lv i k < dnS k q ∧ V (lv.eraseIdx k) i (dnS k q) ∧ _ ∧ s + s' - 1 = ((dnS k q : Nat) : Int) - ((prevP lv i k : Nat) : Int)
    refine ⟨by omega, (V_dn (by omega)).mpr h2, fun r hr hr2 hv => ?_, by omega⟩
    rcases V_del.mp hv with ⟨a, b⟩ | ⟨a, b⟩
    · exact hs.no r hr a b
    · exact h3 (r + 1) (by omega) (by omega) b
theorem del_at_high {lv : List Nat} {k i : Nat} {o : Option Nat} {s : Int} (hk : k < lv.length) (hi : ¬ V lv i (k + 1)) (hn : Nx lv i (prevP lv i k) o s) : Nx (lv.eraseIdx k) i (prevP lv i k) (o.map (dnS k)) (s - 1) := by
  have hs := prevP_spec lv i k
  have hle := hs.le
  cases o with
  | none =>
    obtain ⟨h1, h2⟩ := hn
    refine ⟨fun r hr hv => ?_, by rw [del_length hk]; omega⟩
    rcases V_del.mp hv with ⟨a, b⟩ | ⟨a, b⟩
    · exact hs.no r hr a b
    · exact h1 (r + 1) (by omega) b
  | some q =>
    obtain ⟨h1, h2, h3, h4⟩ := hn
    have hqk : k + 1 < q := by
      rcases Nat.lt_trichotomy q (k + 1) with h5 | h5 | h5
      · exact absurd h2 (hs.no q h1 (by omega))
      · subst h5
        exact absurd h2 hi
      · exact h5
    have hq : dnS k q = q - 1 := dn_gt (by omega)
    show prevP lv i k < dnS k q ∧ V (lv.eraseIdx k) i (dnS k q) ∧ _ ∧ s - 1 = ((dnS k q : Nat) : Int) - ((prevP lv i k : Nat) : Int)
    refine ⟨by omega, (V_dn (by omega)).mpr h2, fun r hr hr2 hv => ?_, by omega⟩
    rcases V_del.mp hv with ⟨a, b⟩ | ⟨a, b⟩
    · exact hs.no r hr a b
    · exact h3 (r + 1) (by omega) (by omega) b
end Go.Proofs.Ytnlbdmiflihghaa.SK
