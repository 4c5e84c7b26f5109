/- The search comes to the usual answer: a star takes any beginning, each other part one character. Conditions: each theorem names its own. -/
import Derived.Test.YtmejbponpkkobaaPH4
namespace Go.Proofs.Ytmejbponpkkobaa.P
open Go.RowKit Go.Proofs.YtmejbponpkkobaaW.PrintWords Go.Proofs.YtmejbponpkkobaaW.PrintLast Go.Proofs.YtmejbponpkkobaaW.PrintMore

/-- Do parts say of characters what they are? -/
def mats : List Pt → List Int → Bool
  | [], c => c.isEmpty
  | .many :: ps, [] => mats ps []
  | .many :: ps, x :: c => mats ps (x :: c) || mats (.many :: ps) c
  | .cls _ _ :: _, [] => false
  | .cls l no :: ps, x :: c => (l.any (inSpan x) != no) && mats ps c
  termination_by ps c => ps.length + c.length
theorem mats_many (ps : List Pt) : ∀ c : List Int, mats (.many :: ps) c = true ↔ ∃ j, j ≤ c.length ∧ mats ps (c.drop j) = true
  | [] => by
    rw [mats]
    constructor
    · intro h; exact ⟨0, Nat.le_refl _, h⟩
    · rintro ⟨j, _, h⟩; simpa using h
  | x :: c => by
    have ih := mats_many ps c
    rw [mats, Bool.or_eq_true, ih]
    constructor
    · rintro (h | ⟨j, h1, h2⟩)
      · exact ⟨0, Nat.zero_le _, h⟩
      · exact ⟨j + 1, by simp; omega, h2⟩
    · rintro ⟨j, h1, h2⟩
      cases j with
      | zero => exact .inl h2
      | succ j => exact .inr ⟨j, by simp at h1; omega, h2⟩
theorem mats_mid (rest : List Pt) : ∀ (mid : List Pt) (c : List Int), (∀ x, x ∈ mid → x.star = false) → mats (mid ++ rest) c = true → mid.length ≤ c.length ∧ mats rest (c.drop mid.length) = true
  | [], c, _, h => ⟨Nat.zero_le _, h⟩
  | .many :: mid, c, hm, _ => by have := hm .many List.mem_cons_self; cases this
  | .cls l no :: mid, [], _, h => by rw [List.cons_append, mats] at h; cases h
  | .cls l no :: mid, x :: c, hm, h => by
    rw [List.cons_append, mats, Bool.and_eq_true] at h
    have ih := mats_mid rest mid c (fun x hx => hm x (List.mem_cons_of_mem _ hx)) h.2
    exact ⟨by simp only [List.length_cons]; omega, ih.2⟩
theorem mats_end : ∀ ps : List Pt, mats ps [] = !ps.any (fun x => !x.star)
  | [] => by rw [mats]; rfl
  | .many :: ps => by rw [mats, mats_end ps]; rfl
  | .cls l no :: ps => by rw [mats]; rfl
theorem lex3 {α : Type} (m1 m2 m3 : α → Nat) (P : α → Prop) (h : ∀ x, (∀ y, m1 y < m1 x ∨ (m1 y ≤ m1 x ∧ m2 y < m2 x) ∨ (m1 y ≤ m1 x ∧ m2 y ≤ m2 x ∧ m3 y < m3 x) → P y) → P x) : ∀ x, P x := by
  have key : ∀ a b c x, m1 x ≤ a → m2 x ≤ b → m3 x ≤ c → P x := by
    intro a
    induction a using Nat.strongRecOn with
    | _ a iha =>
      intro b
      induction b using Nat.strongRecOn with
      | _ b ihb =>
        intro c
        induction c using Nat.strongRecOn with
        | _ c ihc =>
          intro x h1 h2 h3
          refine h x (fun y hy => ?_)
          rcases hy with hy | ⟨hy1, hy2⟩ | ⟨hy1, hy2, hy3⟩
          · exact iha (m1 y) (by omega) (m2 y) (m3 y) y (Nat.le_refl _) (Nat.le_refl _) (Nat.le_refl _)
          · exact ihb (m2 y) (by omega) (m3 y) y (by omega) (Nat.le_refl _) (Nat.le_refl _)
          · exact ihc (m3 y) (by omega) y (by omega) (by omega) (Nat.le_refl _)
  exact fun x => key _ _ _ x (Nat.le_refl _) (Nat.le_refl _) (Nat.le_refl _)
theorem drop_rd (cs : List Int) (k : Nat) (h : k < cs.length) : cs.drop k = rd cs (k : Int) :: cs.drop (k + 1) := by
  rw [List.drop_eq_getElem_cons h]
  simp [rd, List.getD_eq_getElem?_getD, List.getElem?_eq_getElem h]
theorem drop_pt (ps : List Pt) (i : Nat) (h : i < ps.length) : ps.drop i = ps.getD i .many :: ps.drop (i + 1) := by
  rw [List.drop_eq_getElem_cons h]
  simp [List.getD_eq_getElem?_getD, List.getElem?_eq_getElem h]
def starN : Option (Nat × Nat) → Nat
  | none => 0
  | some (s, _) => s + 1
/-- What the search keeps to. -/
structure Inv (ps : List Pt) (cs : List Int) (i k : Nat) (st : Option (Nat × Nat)) : Prop where
  hi : i ≤ ps.length
  hk : k ≤ cs.length
  hs : ∀ s fr, st = some (s, fr) → fr ≤ k ∧ i = s + 1 + (k - fr) ∧ ∀ m, s < m → m < i → (ps.getD m .many).star = false
/-- What is still open: here, or with more for the last star. -/
def Open (ps : List Pt) (cs : List Int) (i k : Nat) (st : Option (Nat × Nat)) : Prop :=
  mats (ps.drop i) (cs.drop k) = true ∨ ∃ s fr, st = some (s, fr) ∧ ∃ j, fr < j ∧ j ≤ cs.length ∧ mats (ps.drop (s + 1)) (cs.drop j) = true
theorem mid_of {ps : List Pt} {cs : List Int} {i k s fr : Nat} (hi : Inv ps cs i k (some (s, fr))) {j : Nat} (hj : mats (ps.drop (s + 1)) (cs.drop j) = true) : k - fr ≤ cs.length - j ∧ mats (ps.drop i) (cs.drop (j + (k - fr))) = true := by
  obtain ⟨h1, h2, h3⟩ := hi.hs s fr rfl
  have hP := hi.hi
  have hsplit : ps.drop (s + 1) = (ps.drop (s + 1)).take (k - fr) ++ ps.drop i := by
    have := (List.take_append_drop (k - fr) (ps.drop (s + 1))).symm
    rw [List.drop_drop] at this
    rw [show s + 1 + (k - fr) = i by omega] at this
    exact this
  have hlen : ((ps.drop (s + 1)).take (k - fr)).length = k - fr := by rw [List.length_take, List.length_drop]; omega
  rw [hsplit] at hj
  have h4 := mats_mid (ps.drop i) _ (cs.drop j) (fun x hx => by
    obtain ⟨m, hm, rfl⟩ := List.mem_iff_getElem.1 hx
    rw [hlen] at hm
    have h5 := h3 (s + 1 + m) (by omega) (by omega)
    rw [List.getElem_take, List.getElem_drop]
    rw [List.getD_eq_getElem?_getD, List.getElem?_eq_getElem (by omega)] at h5
    exact h5) hj
  rw [hlen, List.length_drop, List.drop_drop] at h4
  exact h4
theorem gm_open (ps : List Pt) (cs : List Int) : ∀ x : Nat × Nat × Option (Nat × Nat), Inv ps cs x.1 x.2.1 x.2.2 → ∃ f b, gm ps cs f x.1 x.2.1 x.2.2 = some b ∧ (b = true ↔ Open ps cs x.1 x.2.1 x.2.2) := by
  refine lex3 (fun x => ps.length - starN x.2.2) (fun x => cs.length - fromV x.2.2) (fun x => cs.length - x.2.1) _ ?_
  rintro ⟨i, k, st⟩ ih hI
  simp only at hI ih ⊢
  have hP := hI.hi
  have hC := hI.hk
  have miss : k < cs.length → ¬ mats (ps.drop i) (cs.drop k) = true → ∃ f b, (match st with | some (s, fr) => gm ps cs f (s + 1) (fr + 1) (some (s, fr + 1)) | none => some false) = some b ∧ (b = true ↔ Open ps cs i k st) := by
    intro hlt hno
    cases st with
    | none =>
      refine ⟨0, false, rfl, ?_⟩
      constructor
      · intro h; cases h
      · rintro (h | ⟨s, fr, h, _⟩)
        · exact absurd h hno
        · cases h
    | some q =>
      obtain ⟨s, fr⟩ := q
      obtain ⟨h1, h2, h3⟩ := hI.hs s fr rfl
      obtain ⟨f, b, hg, hb⟩ := ih (s + 1, fr + 1, some (s, fr + 1)) (.inr (.inl ⟨by simp [starN], by simp only [fromV]; omega⟩)) ⟨by simp only; omega, by simp only; omega, fun s1 fr1 e => by cases e; exact ⟨Nat.le_refl _, by simp only; omega, fun m hm1 hm2 => by simp only at hm2; omega⟩⟩
      refine ⟨f, b, hg, ?_⟩
      rw [hb]
      constructor
      · rintro (h | ⟨s1, fr1, e, j, hj1, hj2, hj3⟩)
        · exact .inr ⟨s, fr, rfl, fr + 1, by omega, by omega, h⟩
        · cases e
          exact .inr ⟨s, fr, rfl, j, by omega, hj2, hj3⟩
      · rintro (h | ⟨s1, fr1, e, j, hj1, hj2, hj3⟩)
        · exact absurd h hno
        · cases e
          rcases Nat.lt_or_ge (fr + 1) j with hj | hj
          · exact .inr ⟨s, fr + 1, rfl, j, hj, hj2, hj3⟩
          · have : j = fr + 1 := by omega
            subst this
            exact .inl hj3
  by_cases hlt : k < cs.length
  · by_cases hil : i < ps.length
    · have hdp := drop_pt ps i hil
      cases hq : ps.getD i .many with
      | many =>
        rw [hq] at hdp
        have hst : starN st ≤ i := by
          cases st with
          | none => exact Nat.zero_le _
          | some q => obtain ⟨s, fr⟩ := q; have := (hI.hs s fr rfl).2.1; simp only [starN]; omega
        obtain ⟨f, b, hg, hb⟩ := ih (i + 1, k, some (i, k)) (.inl (show ps.length - (i + 1) < ps.length - starN st by omega)) ⟨by simp only; omega, hC, fun s1 fr1 e => by cases e; exact ⟨Nat.le_refl _, by simp only; omega, fun m hm1 hm2 => by simp only at hm2; omega⟩⟩
        refine ⟨f + 1, b, by simp only [gm, if_pos hlt, if_pos hil, hq]; exact hg, ?_⟩
        rw [hb]
        have hmany : mats (ps.drop i) (cs.drop k) = true ↔ ∃ j, k ≤ j ∧ j ≤ cs.length ∧ mats (ps.drop (i + 1)) (cs.drop j) = true := by
          rw [hdp, mats_many, List.length_drop]
          constructor
          · rintro ⟨j, h1, h2⟩
            rw [List.drop_drop] at h2
            exact ⟨k + j, by omega, by omega, h2⟩
          · rintro ⟨j, h1, h2, h3⟩
            refine ⟨j - k, by omega, ?_⟩
            rw [List.drop_drop, show k + (j - k) = j by omega]
            exact h3
        have hR : Open ps cs i k st ↔ mats (ps.drop i) (cs.drop k) = true := by
          constructor
          · rintro (h | ⟨s, fr, e, j, hj1, hj2, hj3⟩)
            · exact h
            · subst e
              obtain ⟨h4, h5⟩ := mid_of hI hj3
              rw [hdp, mats_many] at h5
              obtain ⟨j2, h6, h7⟩ := h5
              rw [List.length_drop] at h6
              rw [List.drop_drop] at h7
              have h8 := (hI.hs s fr rfl).1
              exact hmany.2 ⟨j + (k - fr) + j2, by omega, by omega, h7⟩
          · exact .inl
        rw [hR, hmany]
        constructor
        · rintro (h | ⟨s, fr, e, j, hj1, hj2, hj3⟩)
          · exact ⟨k, Nat.le_refl _, hC, h⟩
          · cases e
            exact ⟨j, by omega, hj2, hj3⟩
        · rintro ⟨j, h1, h2, h3⟩
          rcases Nat.lt_or_ge k j with hj | hj
          · exact .inr ⟨i, k, rfl, j, hj, h2, h3⟩
          · have : j = k := by omega
            subst this
            exact .inl h3
      | cls l no =>
        rw [hq] at hdp
        have hdc := drop_rd cs k hlt
        cases hz : (l.any (inSpan (rd cs (k : Int))) != no) with
        | true =>
          obtain ⟨f, b, hg, hb⟩ := ih (i + 1, k + 1, st) (.inr (.inr ⟨Nat.le_refl _, Nat.le_refl _, by simp only; omega⟩)) ⟨by simp only; omega, by simp only; omega, fun s fr e => by
            obtain ⟨h1, h2, h3⟩ := hI.hs s fr e
            refine ⟨by simp only; omega, by simp only; omega, fun m hm1 hm2 => ?_⟩
            simp only at hm2
            rcases Nat.lt_or_ge m i with hmi | hmi
            · exact h3 m hm1 hmi
            · have : m = i := by omega
              subst this
              rw [hq]; rfl⟩
          refine ⟨f + 1, b, by simp only [gm, if_pos hlt, if_pos hil, hq, hz, if_true]; exact hg, ?_⟩
          rw [hb]
          have : mats (ps.drop i) (cs.drop k) = mats (ps.drop (i + 1)) (cs.drop (k + 1)) := by rw [hdp, hdc, mats, hz]; rfl
          unfold Open
          simp only
          rw [this]
        | false =>
          have hno : ¬ mats (ps.drop i) (cs.drop k) = true := by rw [hdp, hdc, mats, hz]; simp
          obtain ⟨f, b, hg, hb⟩ := miss hlt hno
          refine ⟨f + 1, b, ?_, hb⟩
          simp only [gm, if_pos hlt, if_pos hil, hq, hz, Bool.false_eq_true, if_false]
          exact hg
    · have hno : ¬ mats (ps.drop i) (cs.drop k) = true := by
        rw [List.drop_eq_nil_of_le (by omega), drop_rd cs k hlt, mats]
        simp
      obtain ⟨f, b, hg, hb⟩ := miss hlt hno
      refine ⟨f + 1, b, ?_, hb⟩
      simp only [gm, if_pos hlt, if_neg hil]
      exact hg
  · refine ⟨1, _, by simp only [gm, if_neg hlt]; rfl, ?_⟩
    have hk : k = cs.length := by omega
    have hd : cs.drop k = [] := List.drop_eq_nil_of_le (by omega)
    have hR : Open ps cs i k st ↔ mats (ps.drop i) (cs.drop k) = true := by
      constructor
      · rintro (h | ⟨s, fr, e, j, hj1, hj2, hj3⟩)
        · exact h
        · subst e
          obtain ⟨h4, _⟩ := mid_of hI hj3
          have := (hI.hs s fr rfl).1
          omega
      · exact .inl
    rw [hR, hd, mats_end]
theorem gm_mats (ps : List Pt) (cs : List Int) : ∃ f, gm ps cs f 0 0 none = some (mats ps cs) := by
  obtain ⟨f, b, hg, hb⟩ := gm_open ps cs (0, 0, none) ⟨Nat.zero_le _, Nat.zero_le _, fun s fr e => by cases e⟩
  refine ⟨f, ?_⟩
  simp only at hg hb
  rw [hg]
  have : b = true ↔ mats ps cs = true := by
    rw [hb]
    constructor
    · rintro (h | ⟨s, fr, e, _⟩)
      · exact h
      · cases e
    · exact .inl
  rw [Bool.eq_iff_iff.2 this]
end Go.Proofs.Ytmejbponpkkobaa.P
