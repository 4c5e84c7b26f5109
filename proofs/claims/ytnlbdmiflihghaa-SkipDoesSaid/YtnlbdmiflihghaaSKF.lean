/- What a list is behind an entry put in: plain Lean, no program in sight. Conditions: each theorem names its own. -/
import Derived.Test.YtnlbdmiflihghaaSK7
import Derived.LaidEql
namespace Go.Proofs.Ytnlbdmiflihghaa.P
open Go.RowKit Go.Shelf Go.Proofs.Ytnlbdmiflihghaa.SK

/-- The head's links, levels H to h laid. -/
def T2 (σ : St) (b h : Nat) (c j : Nat) : Option Nat × Int := if c = b ∧ σ.H ≤ j ∧ j < h then (none, (σ.n : Int)) else σ.tow c j
theorem T2_low (σ : St) (b h : Nat) (hh : h ≤ σ.H) : T2 σ b h = σ.tow := by
  funext c j
  unfold T2
  rw [if_neg (by omega)]
/-- A level's links behind the putting in. -/
def Tn (σ : St) (b : Nat) (bs : List Nat) (k x h : Nat) (c j : Nat) : Option Nat × Int :=
  if c = nd b bs (prevP (lvs σ bs) j k) then (if j < h then (some x, (k : Int) - prevP (lvs σ bs) j k + 1) else ((T2 σ b h c j).1, (T2 σ b h c j).2 + 1))
  else if c = x then (if j < h then ((T2 σ b h (nd b bs (prevP (lvs σ bs) j k)) j).1, (T2 σ b h (nd b bs (prevP (lvs σ bs) j k)) j).2 - ((k : Int) - prevP (lvs σ bs) j k)) else (none, 0))
  else T2 σ b h c j
/-- .. m levels done. -/
def σI (σ : St) (b : Nat) (bs : List Nat) (k x : Nat) (e : En) (h m : Nat) : St where
  E := fun c => if c = x then e else σ.E c
  lev := fun c => if c = x then h else σ.lev c
  tow := fun c j => if j < m then Tn σ b bs k x h c j else if c = x then (none, 0) else T2 σ b h c j
  bk := fun c => if c = x then none else σ.bk c
  last := σ.last
  H := max σ.H h
  n := σ.n
/-- The list behind it all. -/
def σJ (σ : St) (b : Nat) (bs : List Nat) (k x : Nat) (e : En) (h : Nat) : St :=
  { σI σ b bs k x e h (max σ.H h) with
    bk := fun c => if c = x then (if k = 0 then none else some (nd b bs k)) else if k < bs.length ∧ c = nd b bs (k + 1) then some x else σ.bk c
    last := if k < bs.length then σ.last else some x
    n := σ.n + 1 }
/-- The nodes behind it. -/
def insB (bs : List Nat) (k x : Nat) : List Nat := bs.take k ++ x :: bs.drop k
section
variable {σ : St} {b : Nat} {bs : List Nat} {k x : Nat} {e : En} {h : Nat}
theorem insB_len : (insB bs k x).length = bs.length + 1 := ins_length bs k x
theorem insB_get (hk : k ≤ bs.length) (j : Nat) : (insB bs k x).getD j 0 = if j < k then bs.getD j 0 else if j = k then x else bs.getD (j - 1) 0 := ins_get bs k x j hk
theorem mem_insB {c : Nat} : c ∈ insB bs k x ↔ c = x ∨ c ∈ bs := by
  unfold insB
  have := List.take_append_drop k bs
  constructor
  · intro hc
    rcases List.mem_append.mp hc with hc | hc
    · exact .inr (List.mem_of_mem_take hc)
    · rcases List.mem_cons.mp hc with hc | hc
      · exact .inl hc
      · exact .inr (List.mem_of_mem_drop hc)
  · rintro (rfl | hc)
    · exact List.mem_append_right _ List.mem_cons_self
    · rw [← this] at hc
      rcases List.mem_append.mp hc with hc | hc
      · exact List.mem_append_left _ hc
      · exact List.mem_append_right _ (List.mem_cons_of_mem _ hc)
theorem nd_up (hk : k ≤ bs.length) (q : Nat) : nd b (insB bs k x) (upS k q) = nd b bs q := by
  unfold nd upS
  by_cases h1 : q ≤ k
  · rw [if_pos h1]
    by_cases h0 : q = 0
    · rw [if_pos h0, if_pos h0]
    · rw [if_neg h0, if_neg h0, insB_get hk, if_pos (by omega)]
  · rw [if_neg h1, if_neg (by omega), if_neg (by omega), insB_get hk, if_neg (by omega), if_neg (by omega)]
    rfl
theorem nd_new (hk : k ≤ bs.length) : nd b (insB bs k x) (k + 1) = x := by
  unfold nd
  rw [if_neg (by omega), insB_get hk, if_neg (by omega), if_pos (by omega)]
theorem nd_inj (hnb : b ∉ bs) (hnd : bs.Nodup) {p q : Nat} (hp : p ≤ bs.length) (hq : q ≤ bs.length) (he : nd b bs p = nd b bs q) : p = q := by
  rcases Nat.eq_zero_or_pos p with h1 | h1 <;> rcases Nat.eq_zero_or_pos q with h2 | h2
  · omega
  · subst h1
    have := nd_mem' (b := b) h2 hq
    rw [← he] at this
    exact absurd this hnb
  · subst h2
    have := nd_mem' (b := b) h1 hp
    rw [he] at this
    exact absurd this hnb
  · unfold nd at he
    rw [if_neg (by omega), if_neg (by omega), List.getD_eq_getElem?_getD, List.getD_eq_getElem?_getD, List.getElem?_eq_getElem (by omega), List.getElem?_eq_getElem (by omega)] at he
    have := (List.getElem_inj hnd).mp (show bs[p - 1] = bs[q - 1] from he)
    omega
theorem nodup_insB (hnd : bs.Nodup) (hx : x ∉ bs) : (insB bs k x).Nodup := by
  unfold insB
  rw [List.nodup_append, List.nodup_cons]
  refine ⟨hnd.sublist (List.take_sublist _ _), ⟨fun hc => hx (List.mem_of_mem_drop hc), hnd.sublist (List.drop_sublist _ _)⟩, ?_⟩
  intro a ha c hc heq
  subst heq
  rcases List.mem_cons.mp hc with rfl | hc
  · exact hx (List.mem_of_mem_take ha)
  · have h2 := hnd
    rw [← List.take_append_drop k bs, List.nodup_append] at h2
    exact h2.2.2 a ha a hc rfl
theorem map_insB {α : Type} (f : Nat → α) (v : α) (hx : x ∉ bs) : (insB bs k x).map (fun c => if c = x then v else f c) = (bs.map f).take k ++ v :: (bs.map f).drop k := by
  have h1 : ∀ l : List Nat, (∀ c ∈ l, c ∈ bs) → l.map (fun c => if c = x then v else f c) = l.map f := fun l hl => List.map_congr_left (fun c hc => if_neg (fun (he : c = x) => hx (by rw [← he]; exact hl c hc)))
  unfold insB
  rw [List.map_append, List.map_cons, if_pos rfl, h1 _ (fun c hc => List.mem_of_mem_take hc), h1 _ (fun c hc => List.mem_of_mem_drop hc), List.map_take, List.map_drop]
theorem lvs_ins (hx : x ∉ bs) : lvs (σJ σ b bs k x e h) (insB bs k x) = ins (lvs σ bs) k h := by
  show (insB bs k x).map (fun c => if c = x then h else σ.lev c) = _
  rw [map_insB σ.lev h hx]
  rfl
/-- A level's link, also of the levels that the head has got anew. -/
theorem link2 (hX : Shape b bs σ) (hnb : b ∉ bs) {p i : Nat} (hp : p ≤ bs.length) (hi : i < (if p = 0 then max σ.H h else lvl σ bs p)) : ∃ o s, Nx (lvs σ bs) i p o s ∧ T2 σ b h (nd b bs p) i = (o.map (nd b bs), s) := by
  by_cases hl : i < lvl σ bs p
  · obtain ⟨o, s, h1, h2⟩ := hX.tw p hp i hl
    refine ⟨o, s, h1, ?_⟩
    unfold T2
    rw [if_neg]
    · exact h2
    · rintro ⟨h3, h4, _⟩
      have : p = 0 := nd_inj hnb hX.nodup hp (Nat.zero_le _) h3
      subst this
      have : i < σ.H := hl
      omega
  · have hp0 : p = 0 := by
      rcases Nat.eq_zero_or_pos p with h0 | h0
      · exact h0
      · rw [if_neg (by omega)] at hi
        exact absurd hi hl
    subst hp0
    rw [if_pos rfl] at hi
    have hHi : ¬ i < σ.H := hl
    refine ⟨none, (σ.n : Int), ⟨fun r hr hv => ?_, ?_⟩, ?_⟩
    · have h1 := V_lvl.mp hv
      have h2 := V_le hv
      rw [lvs_len] at h2
      rw [lvl_nd (b := b) h1.1 h2] at h1
      have := (hX.lv1 _ (nd_mem' (b := b) h1.1 h2)).2
      omega
    · rw [lvs_len, hX.len]
      simp
    · unfold T2
      rw [if_pos ⟨rfl, by omega, by omega⟩]
      rfl
theorem map_up (hk : k ≤ bs.length) (o : Option Nat) : (o.map (upS k)).map (nd b (insB bs k x)) = o.map (nd b bs) := by
  cases o with
  | none => rfl
  | some q => exact congrArg some (nd_up hk q)
/-- On a level the last one up to the place is not behind one that is on it. -/
theorem prev_ge {lv : List Nat} {i p : Nat} (hp : p ≤ k) (hv : p = 0 ∨ V lv i p) : p ≤ prevP lv i k := by
  have hs := prevP_spec lv i k
  rcases hv with rfl | hv
  · exact Nat.zero_le _
  · rcases Nat.lt_or_ge (prevP lv i k) p with h1 | h1
    · exact absurd hv (hs.no p h1 hp)
    · exact h1
theorem lvl_ins (hk : k ≤ bs.length) (hx : x ∉ bs) (p : Nat) (hp : p ≤ bs.length) : lvl (σJ σ b bs k x e h) (insB bs k x) (upS k p) = if p = 0 then max σ.H h else lvl σ bs p := by
  unfold lvl
  by_cases h0 : p = 0
  · subst h0
    rw [if_pos (by unfold upS; rw [if_pos (by omega)]), if_pos rfl]
    rfl
  · rw [if_neg (by unfold upS; split <;> omega), if_neg h0, if_neg h0, lvs_ins hx, ins_get _ _ _ _ (by rw [lvs_len]; exact hk)]
    unfold upS
    by_cases h1 : p ≤ k
    · rw [if_pos h1, if_pos (by omega)]
    · rw [if_neg h1, if_neg (by omega), if_neg (by omega)]
      rfl
theorem tow_old (hX : Shape b bs σ) (hnb : b ∉ bs) (hk : k ≤ bs.length) (hx : x ∉ bs) (hxb : x ≠ b) {p i : Nat} (hp : p ≤ bs.length) (hi : i < max σ.H h) (hne : p ≠ prevP (lvs σ bs) i k) : (σJ σ b bs k x e h).tow (nd b bs p) i = T2 σ b h (nd b bs p) i := by
  have hP : prevP (lvs σ bs) i k ≤ bs.length := Nat.le_trans (prevP_spec (lvs σ bs) i k).le hk
  show (if i < max σ.H h then Tn σ b bs k x h (nd b bs p) i else _) = _
  rw [if_pos hi]
  unfold Tn
  rw [if_neg (fun he => hne (nd_inj hnb hX.nodup hp hP he)), if_neg (fun he => ?_)]
  have hm := nd_mem (b := b) hp
  rw [he] at hm
  rcases List.mem_cons.mp hm with h1 | h1
  · exact hxb h1
  · exact hx h1
theorem shape_ins (hX : Shape b bs σ) (hnb : b ∉ bs) (hk : k ≤ bs.length) (hx : x ∉ bs) (hxb : x ≠ b) (h1 : 1 ≤ h) (h32 : h ≤ 32) (hsm : bs.length < 1000) : Shape b (insB bs k x) (σJ σ b bs k x e h) := by
  have hll : (lvs σ bs).length = bs.length := lvs_len σ bs
  have hkl : k ≤ (lvs σ bs).length := by omega
  have hlevx : (σJ σ b bs k x e h).lev x = h := if_pos rfl
  have hlev : ∀ c, c ≠ x → (σJ σ b bs k x e h).lev c = σ.lev c := fun c hc => if_neg hc
  have hHJ : (σJ σ b bs k x e h).H = max σ.H h := rfl
  refine { len := ?_, small := ?_, nodup := nodup_insB hX.nodup hx, lv1 := ?_, H32 := ?_, Hex := ?_, tw := ?_, tz := ?_, bks := ?_, lst := ?_ }
  · show σ.n + 1 = _
    rw [insB_len, hX.len]
  · rw [insB_len]; omega
  · intro c hc
    rcases mem_insB.mp hc with rfl | hc
    · rw [hlevx, hHJ]; omega
    · have hcx : c ≠ x := fun he => hx (he ▸ hc)
      have := hX.lv1 c hc
      rw [hlev c hcx, hHJ]; omega
  · have := hX.H32
    rw [hHJ]; omega
  · refine .inr ?_
    by_cases hh : σ.H ≤ h
    · exact ⟨x, mem_insB.mpr (.inl rfl), by rw [hlevx, hHJ]; omega⟩
    · rcases hX.Hex with h0 | ⟨c, hc, hl⟩
      · omega
      · have hcx : c ≠ x := fun he => hx (he ▸ hc)
        exact ⟨c, mem_insB.mpr (.inr hc), by rw [hlev c hcx, hHJ, hl]; omega⟩
  · intro p' hp' i hi
    rw [insB_len] at hp'
    rw [lvs_ins hx]
    by_cases hpx : p' = k + 1
    · subst hpx
      rw [nd_new hk]
      have hih : i < h := by
        have : lvl (σJ σ b bs k x e h) (insB bs k x) (k + 1) = h := by
          unfold lvl
          rw [if_neg (by omega), lvs_ins hx, ins_get _ _ _ _ hkl, if_neg (by omega), if_pos (by omega)]
        omega
      have hsp := prevP_spec (lvs σ bs) i k
      have hPl : prevP (lvs σ bs) i k ≤ bs.length := Nat.le_trans hsp.le hk
      have hPi : i < (if prevP (lvs σ bs) i k = 0 then max σ.H h else lvl σ bs (prevP (lvs σ bs) i k)) := by
        rcases hsp.on with h0 | hv
        · rw [if_pos h0]; omega
        · rw [if_neg (by have := hv.1; omega)]; exact (V_lvl.mp hv).2
      obtain ⟨o, s, hn, ht⟩ := link2 (h := h) hX hnb hPl hPi
      refine ⟨o.map (upS k), s - ((k : Int) - prevP (lvs σ bs) i k), ins_new hkl hn, ?_⟩
      rw [map_up hk]
      show (if i < max σ.H h then Tn σ b bs k x h x i else _) = _
      rw [if_pos (by omega)]
      unfold Tn
      rw [if_neg (fun he => ?_), if_pos rfl, if_pos hih, ht]
      have hm := nd_mem (b := b) hPl
      rw [← he] at hm
      rcases List.mem_cons.mp hm with h2 | h2
      · exact hxb h2
      · exact hx h2
    · obtain ⟨p, hpl, hpe⟩ : ∃ p, p ≤ bs.length ∧ p' = upS k p := by
        by_cases hp : p' ≤ k
        · exact ⟨p', by omega, (up_le hp).symm⟩
        · exact ⟨p' - 1, by omega, by rw [up_gt (by omega)]; omega⟩
      subst hpe
      rw [lvl_ins hk hx p hpl] at hi
      rw [nd_up hk]
      obtain ⟨o, s, hn, ht⟩ := link2 (h := h) hX hnb hpl hi
      have hiH : i < max σ.H h := by
        by_cases h0 : p = 0
        · rw [if_pos h0] at hi; exact hi
        · rw [if_neg h0, lvl_nd (b := b) (by omega) hpl] at hi
          have := (hX.lv1 _ (nd_mem' (b := b) (by omega) hpl)).2
          omega
      have hon : p = 0 ∨ V (lvs σ bs) i p := by
        by_cases h0 : p = 0
        · exact .inl h0
        · rw [if_neg h0] at hi
          exact .inr (V_lvl.mpr ⟨by omega, hi⟩)
      by_cases hpk : p ≤ k
      · by_cases hpp : p = prevP (lvs σ bs) i k
        · by_cases hih : i < h
          · refine ⟨some (k + 1), (k : Int) - prevP (lvs σ bs) i k + 1, by rw [up_le hpk, hpp]; exact ins_at_low hkl hih, ?_⟩
            show (if i < max σ.H h then Tn σ b bs k x h (nd b bs p) i else _) = (some (nd b (insB bs k x) (k + 1)), _)
            rw [if_pos hiH, nd_new hk]
            unfold Tn
            rw [if_pos (by rw [← hpp]), if_pos hih]
          · refine ⟨o.map (upS k), s + 1, by rw [up_le hpk, hpp]; rw [hpp] at hn; exact ins_at_high hkl (by omega) hn, ?_⟩
            rw [map_up hk]
            show (if i < max σ.H h then Tn σ b bs k x h (nd b bs p) i else _) = _
            rw [if_pos hiH]
            unfold Tn
            rw [if_pos (by rw [← hpp]), if_neg hih, ht]
        · have hlt : p < prevP (lvs σ bs) i k := by
            have := prev_ge hpk hon
            omega
          refine ⟨o.map (upS k), s, by rw [up_le hpk]; exact ins_ahead hkl hlt hn, ?_⟩
          rw [map_up hk, tow_old hX hnb hk hx hxb hpl hiH hpp, ht]
      · have hlt : k < p := by omega
        refine ⟨o.map (upS k), s, by rw [up_gt hlt]; exact ins_behind hkl hlt hn, ?_⟩
        have hpp : p ≠ prevP (lvs σ bs) i k := by
          have := (prevP_spec (lvs σ bs) i k).le
          omega
        rw [map_up hk, tow_old hX hnb hk hx hxb hpl hiH hpp, ht]
  · intro c hc i hi hi32
    have hsp := prevP_spec (lvs σ bs) i k
    have hPl : prevP (lvs σ bs) i k ≤ bs.length := Nat.le_trans hsp.le hk
    show ((if i < max σ.H h then Tn σ b bs k x h c i else if c = x then (none, 0) else T2 σ b h c i)).1 = none
    rcases mem_insB.mp hc with rfl | hc
    · rw [hlevx] at hi
      by_cases hiH : i < max σ.H h
      · rw [if_pos hiH]
        unfold Tn
        rw [if_neg (fun he => ?_), if_pos rfl, if_neg (by omega)]
        have hm := nd_mem (b := b) hPl
        rw [← he] at hm
        rcases List.mem_cons.mp hm with h2 | h2
        · exact hxb h2
        · exact hx h2
      · rw [if_neg hiH, if_pos rfl]
    · have hcx : c ≠ x := fun he => hx (he ▸ hc)
      have hcb : c ≠ b := fun he => hnb (he ▸ hc)
      rw [hlev c hcx] at hi
      have hT : T2 σ b h c i = σ.tow c i := by
        unfold T2
        rw [if_neg (fun hh => hcb hh.1)]
      have hz := hX.tz c hc i hi hi32
      by_cases hiH : i < max σ.H h
      · rw [if_pos hiH]
        unfold Tn
        rw [if_neg (fun he => ?_), if_neg hcx, hT, hz]
        rcases hsp.on with h0 | hv
        · rw [h0] at he
          exact hcb he
        · have h2 := V_lvl.mp hv
          rw [lvl_nd (b := b) h2.1 hPl, ← he] at h2
          omega
      · rw [if_neg hiH, if_neg hcx, hT, hz]
  · intro p' hp1 hp2
    rw [insB_len] at hp2
    show (if nd b (insB bs k x) p' = x then (if k = 0 then none else some (nd b bs k)) else if k < bs.length ∧ nd b (insB bs k x) p' = nd b bs (k + 1) then some x else σ.bk (nd b (insB bs k x) p')) = _
    have hprev : ∀ r, r ≤ k → nd b (insB bs k x) r = nd b bs r := fun r hr => by have := nd_up (b := b) (x := x) hk r; rwa [up_le hr] at this
    by_cases hpx : p' = k + 1
    · subst hpx
      rw [nd_new hk, if_pos rfl]
      by_cases h0 : k = 0
      · rw [if_pos h0, if_pos (by omega)]
      · rw [if_neg h0, if_neg (by omega), show k + 1 - 1 = k by omega, hprev k (Nat.le_refl _)]
    · obtain ⟨p, hpl, hpe, hpp⟩ : ∃ p, p ≤ bs.length ∧ p' = upS k p ∧ 1 ≤ p := by
        by_cases hp : p' ≤ k
        · exact ⟨p', by omega, (up_le hp).symm, hp1⟩
        · exact ⟨p' - 1, by omega, by rw [up_gt (by omega)]; omega, by omega⟩
      subst hpe
      rw [nd_up hk]
      have hm := nd_mem' (b := b) hpp hpl
      rw [if_neg (fun (he : nd b bs p = x) => hx (by rw [← he]; exact hm))]
      by_cases hpk : p ≤ k
      · rw [if_neg (fun hh => by have := nd_inj hnb hX.nodup hpl (by omega) hh.2; omega), hX.bks p hpp hpl, up_le hpk]
        by_cases h0 : p = 1
        · rw [if_pos h0, if_pos h0]
        · rw [if_neg h0, if_neg h0, hprev (p - 1) (by omega)]
      · rw [up_gt (show k < p by omega), if_neg (show ¬ p + 1 = 1 by omega), show p + 1 - 1 = p by omega]
        by_cases hp1 : p = k + 1
        · subst hp1
          rw [if_pos ⟨by omega, rfl⟩, nd_new hk]
        · rw [if_neg (fun hh => hp1 (nd_inj hnb hX.nodup hpl (by omega) hh.2)), hX.bks p hpp hpl, if_neg (by omega)]
          have := nd_up (b := b) (x := x) hk (p - 1)
          rw [up_gt (by omega), show p - 1 + 1 = p by omega] at this
          rw [this]
  · show (if k < bs.length then σ.last else some x) = _
    rw [insB_len, if_neg (show ¬ bs.length + 1 = 0 by omega)]
    by_cases hkl2 : k < bs.length
    · rw [if_pos hkl2, hX.lst, if_neg (show ¬ bs.length = 0 by omega)]
      have := nd_up (b := b) (x := x) hk bs.length
      rw [up_gt hkl2] at this
      rw [this]
    · have : k = bs.length := by omega
      rw [if_neg hkl2, ← this, nd_new hk]
theorem ents_ins (hx : x ∉ bs) : (insB bs k x).map (σJ σ b bs k x e h).E = (bs.map σ.E).take k ++ e :: (bs.map σ.E).drop k := map_insB σ.E e hx
end
end Go.Proofs.Ytnlbdmiflihghaa.P

/- What a change of a list leaves of memory; one entry more in it. Conditions: each theorem names its own. -/
namespace Go.Proofs.Ytnlbdmiflihghaa.P
open Go.RowKit Go.Shelf Go.Proofs.YtnlbdmiflihghaaW.PrintWords Go.Proofs.YtnlbdmiflihghaaW.PrintLast Go.Proofs.YtnlbdmiflihghaaW.PrintMore Go.Proofs.Ytnlbdmiflihghaa.SK
attribute [local go_sem] Oper.semAt_some

/-- What lies in elder blocks but some lies as it lay. -/
structure Foot (F : List Nat) (w w' : World) : Prop where
  os : w'.os = w.os
  tape : w'.tape = w.tape
  output : w'.output = w.output
  size : w.heap.size ≤ w'.heap.size
  block : ∀ k, k < w.heap.size → k ∉ F → w'.heap[k]? = w.heap[k]?
section
variable {F : List Nat} {w w' w'' : World}
theorem Foot.refl (F : List Nat) (w : World) : Foot F w w := ⟨rfl, rfl, rfl, Nat.le_refl _, fun _ _ _ => rfl⟩
theorem Foot.trans (h : Foot F w w') (h' : Foot F w' w'') : Foot F w w'' := ⟨h'.os.trans h.os, h'.tape.trans h.tape, h'.output.trans h.output, Nat.le_trans h.size h'.size, fun k hk hF => (h'.block k (Nat.lt_of_lt_of_le hk h.size) hF).trans (h.block k hk hF)⟩
theorem Foot.below (h : Foot F w w') (hb : Below w.heap.size w' w'') : Foot F w w'' := ⟨hb.os.trans h.os, hb.tape.trans h.tape, hb.output.trans h.output, Nat.le_trans h.size hb.size, fun k hk hF => (hb.block k hk).trans (h.block k hk hF)⟩
theorem Foot.of (hb : Below w.heap.size w w') : Foot F w w' := (Foot.refl F w).below hb
theorem Foot.setCell (h : Foot F w w') {B j : Nat} (v : Value) (hB : B ∈ F ∨ w.heap.size ≤ B) : Foot F w (w'.setCell ⟨B, j, none⟩ v) :=
  ⟨h.os, h.tape, h.output, by have := h.size; simpa [World.setCell] using this, fun k hk hF => (Below.heap_setCell _ _ _ _ (by show k ≠ B; rintro rfl; rcases hB with hB | hB; exact hF hB; omega)).trans (h.block k hk hF)⟩
theorem Foot.drew (h : Foot F w w') : Foot F w w'.drew := ⟨h.os, h.tape, h.output, h.size, h.block⟩
theorem Foot.alloc (h : Foot F w w') (o : Obj) : Foot F w (w'.alloc o) := h.below ((Below.refl _ _).alloc h.size o)
theorem Foot.mono {G : List Nat} (h : Foot F w w') (hs : ∀ k, k < w.heap.size → k ∈ F → k ∈ G) : Foot G w w' := ⟨h.os, h.tape, h.output, h.size, fun k hk hG => h.block k hk (fun hF => hG (hs k hk hF))⟩
theorem Foot.trans' {G : List Nat} (h : Foot F w w') (h' : Foot G w' w'') (hs : ∀ k, k < w.heap.size → k ∈ G → k ∈ F) : Foot F w w'' := ⟨h'.os.trans h.os, h'.tape.trans h.tape, h'.output.trans h.output, Nat.le_trans h.size h'.size, fun k hk hF => (h'.block k (Nat.lt_of_lt_of_le hk h.size) (fun hG => hF (hs k hk hG))).trans (h.block k hk hF)⟩
theorem Foot.toBelow {m : Nat} (h : Foot F w w') (hm : m ≤ w.heap.size) (hF : ∀ k, k ∈ F → m ≤ k) : Below m w w' := ⟨h.os, h.tape, h.output, h.size, fun k hk => h.block k (by omega) (fun hk2 => by have := hF k hk2; omega)⟩
end
section
variable {W : World} {b : Nat} {S : List Nat} {σ σ' : St}
theorem lnk_ext {t t' : Nat → Option Nat × Int} (h : ∀ j, j < 32 → t j = t' j) (j : Nat) (h1 : 2 ≤ j) (h2 : j < 66) : lnk t j = lnk t' j := by
  unfold lnk
  rw [h ((j - 2) / 2) (by omega)]
theorem Sk.ext (h : Sk W b S σ) (hE : ∀ c, c ∈ S → σ.E c = σ'.E c) (hl : ∀ c, c ∈ S → σ.lev c = σ'.lev c) (ht : ∀ c, c ∈ b :: S → ∀ j, j < 32 → σ.tow c j = σ'.tow c j) (hb : ∀ c, c ∈ S → σ.bk c = σ'.bk c) (h1 : σ.last = σ'.last) (h2 : σ.H = σ'.H) (h3 : σ.n = σ'.n) : Sk W b S σ' := by
  refine ⟨h.head.ext (fun j hj => ?_), fun c hc => (h.node c hc).ext (fun j hj => ?_), h.ne⟩
  · unfold headC
    rw [h1, h2, h3]
    by_cases a0 : j = 0
    · rw [if_pos a0, if_pos a0]
    by_cases a1 : j = 1
    · rw [if_neg a0, if_pos a1, if_neg a0, if_pos a1]
    by_cases a2 : j < 66
    · rw [if_neg a0, if_neg a1, if_pos a2, if_neg a0, if_neg a1, if_pos a2]
      exact lnk_ext (ht b List.mem_cons_self) j (by omega) a2
    · rw [if_neg a0, if_neg a1, if_neg a2, if_neg a0, if_neg a1, if_neg a2]
  · unfold nodeC
    rw [hE c hc, hl c hc, hb c hc]
    by_cases a0 : j = 0
    · rw [if_pos a0, if_pos a0]
    by_cases a1 : j = 1
    · rw [if_neg a0, if_pos a1, if_neg a0, if_pos a1]
    by_cases a2 : j < 66
    · rw [if_neg a0, if_neg a1, if_pos a2, if_neg a0, if_neg a1, if_pos a2]
      exact lnk_ext (ht c (List.mem_cons_of_mem _ hc)) j (by omega) a2
    · rw [if_neg a0, if_neg a1, if_neg a2, if_neg a0, if_neg a1, if_neg a2]
theorem Sk.mem {S' : List Nat} (h : Sk W b S σ) (hm : ∀ c, c ∈ S' → c ∈ S) : Sk W b S' σ := ⟨h.head, fun c hc => h.node c (hm c hc), fun hb => h.ne (hm b hb)⟩
theorem Sk.add {x : Nat} (h : Sk W b S σ) (hx : Bk W x 62 68 (nodeC (σ.E x) (σ.tow x) (σ.lev x) (σ.bk x))) (hxb : x ≠ b) : Sk W b (x :: S) σ := by
  refine ⟨h.head, fun c hc => ?_, fun hb => ?_⟩
  · rcases List.mem_cons.mp hc with rfl | hc
    · exact hx
    · exact h.node c hc
  · rcases List.mem_cons.mp hb with hb | hb
    · exact hxb hb.symm
    · exact h.ne hb
end
theorem zero62 (w : World) : (zeroValue 62).run Try.prog w = .ok (.agg #[.string ⟨#[]⟩, .int .i64 0, .pointer none, .int .i64 0, .pointer none, .int .i64 0, .pointer none, .int .i64 0, .pointer none, .int .i64 0, .pointer none, .int .i64 0, .pointer none, .int .i64 0, .pointer none, .int .i64 0, .pointer none, .int .i64 0, .pointer none, .int .i64 0, .pointer none, .int .i64 0, .pointer none, .int .i64 0, .pointer none, .int .i64 0, .pointer none, .int .i64 0, .pointer none, .int .i64 0, .pointer none, .int .i64 0, .pointer none, .int .i64 0, .pointer none, .int .i64 0, .pointer none, .int .i64 0, .pointer none, .int .i64 0, .pointer none, .int .i64 0, .pointer none, .int .i64 0, .pointer none, .int .i64 0, .pointer none, .int .i64 0, .pointer none, .int .i64 0, .pointer none, .int .i64 0, .pointer none, .int .i64 0, .pointer none, .int .i64 0, .pointer none, .int .i64 0, .pointer none, .int .i64 0, .pointer none, .int .i64 0, .pointer none, .int .i64 0, .pointer none, .int .i64 0, .int .i64 0, .pointer none]) w := by kernel_rfl
theorem node0 (e : En) (h : Nat) : (List.range 68).map (nodeC e (fun _ => (none, 0)) h none) = [.string e.1, .int .i64 e.2, .pointer none, .int .i64 0, .pointer none, .int .i64 0, .pointer none, .int .i64 0, .pointer none, .int .i64 0, .pointer none, .int .i64 0, .pointer none, .int .i64 0, .pointer none, .int .i64 0, .pointer none, .int .i64 0, .pointer none, .int .i64 0, .pointer none, .int .i64 0, .pointer none, .int .i64 0, .pointer none, .int .i64 0, .pointer none, .int .i64 0, .pointer none, .int .i64 0, .pointer none, .int .i64 0, .pointer none, .int .i64 0, .pointer none, .int .i64 0, .pointer none, .int .i64 0, .pointer none, .int .i64 0, .pointer none, .int .i64 0, .pointer none, .int .i64 0, .pointer none, .int .i64 0, .pointer none, .int .i64 0, .pointer none, .int .i64 0, .pointer none, .int .i64 0, .pointer none, .int .i64 0, .pointer none, .int .i64 0, .pointer none, .int .i64 0, .pointer none, .int .i64 0, .pointer none, .int .i64 0, .pointer none, .int .i64 0, .pointer none, .int .i64 0, .int .i64 h, .pointer none] := by kernel_rfl
theorem mx_nat (a c : Nat) : mx (a : Int) (c : Int) = ((max a c : Nat) : Int) := by
  unfold mx
  split <;> omega
theorem elem56 : Try.prog.underlying 56 = some (.pointer 62) := by kernel_rfl
theorem info62 : ∃ j, Try.prog.info? 62 = some j ∧ j.size = 68 := ⟨(Try.prog.info? 62).getD default, by kernel_rfl, by kernel_rfl⟩
theorem neq_same (b : Nat) (w : World) : (binOp .neq 56 (.pointer (some ⟨b, 0, none⟩)) (.pointer (some ⟨b, 0, none⟩))).run Try.prog w = .ok (.bool false) w := by
  obtain ⟨j, h1, _⟩ := info62
  have h : ∀ d : Nat, (Op.equalIn (d + 1) 56 (.pointer (some ⟨b, 0, none⟩)) (.pointer (some ⟨b, 0, none⟩))).run Try.prog w = .ok true w := fun d => by simp [Op.equalIn, run_underlying elem56, sizeOf, typeInfo, h1, run_sameAddr_same]
  simp only [binOp]
  simp [Op.equal, Op.maxDepth, h 9999]
theorem neq_other (c b : Nat) (w : World) (hne : c ≠ b) {C B : Array Value} {T U : TypeId} (hc : w.heap[c]? = some (.cells C T (0, 0))) (hb : w.heap[b]? = some (.cells B U (0, 0))) : (binOp .neq 56 (.pointer (some ⟨c, 0, none⟩)) (.pointer (some ⟨b, 0, none⟩))).run Try.prog w = .ok (.bool true) w := by
  obtain ⟨j, h1, h2⟩ := info62
  have h3 := run_sameAddr_other (P := Try.prog) w (a := ⟨c, 0, none⟩) (b := ⟨b, 0, none⟩) (fun e => hne (by injection e)) hc hb
  have h : ∀ d : Nat, (Op.equalIn (d + 1) 56 (.pointer (some ⟨c, 0, none⟩)) (.pointer (some ⟨b, 0, none⟩))).run Try.prog w = .ok false w := fun d => by simp [Op.equalIn, run_underlying elem56, sizeOf, typeInfo, h1, h2, h3]
  simp only [binOp]
  simp [Op.equal, Op.maxDepth, h 9999]
end Go.Proofs.Ytnlbdmiflihghaa.P
