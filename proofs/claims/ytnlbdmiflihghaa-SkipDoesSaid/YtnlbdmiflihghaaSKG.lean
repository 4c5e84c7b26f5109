/- What a list is behind an entry taken out: plain Lean, no program in sight. Conditions: each theorem names its own. -/
import Derived.Test.YtnlbdmiflihghaaSKL
namespace Go.Proofs.Ytnlbdmiflihghaa.P
open Go.RowKit Go.Shelf Go.Proofs.Ytnlbdmiflihghaa.SK

/-- A level's links behind the taking out of the node behind place k. -/
def Td (σ : St) (b : Nat) (bs : List Nat) (k : Nat) (c i : Nat) : Option Nat × Int :=
  if c = nd b bs (prevP (lvs σ bs) i k) then (if i < σ.lev (nd b bs (k + 1)) then ((σ.tow (nd b bs (k + 1)) i).1, (σ.tow c i).2 + (σ.tow (nd b bs (k + 1)) i).2 - 1) else ((σ.tow c i).1, (σ.tow c i).2 - 1)) else σ.tow c i
/-- .. m levels done. -/
def σT (σ : St) (b : Nat) (bs : List Nat) (k m : Nat) : St := { σ with tow := fun c i => if i < m then Td σ b bs k c i else σ.tow c i }
/-- The list behind it all. -/
def σK (σ : St) (b : Nat) (bs : List Nat) (k : Nat) : St :=
  { σT σ b bs k σ.H with
    bk := fun c => if k + 1 < bs.length ∧ c = nd b bs (k + 2) then σ.bk (nd b bs (k + 1)) else σ.bk c
    last := if k + 1 < bs.length then σ.last else σ.bk (nd b bs (k + 1))
    H := top ((lvs σ bs).eraseIdx k)
    n := σ.n - 1 }
section
variable {σ : St} {b : Nat} {bs : List Nat} {k : Nat}
theorem erase_get (j : Nat) : (bs.eraseIdx k).getD j 0 = if j < k then bs.getD j 0 else bs.getD (j + 1) 0 := del_get bs k j
theorem nd_dn {q : Nat} (hq : q ≠ k + 1) : nd b (bs.eraseIdx k) (dnS k q) = nd b bs q := by
  unfold nd dnS
  by_cases h1 : q ≤ k
  · rw [if_pos h1]
    by_cases h0 : q = 0
    · rw [if_pos h0, if_pos h0]
    · rw [if_neg h0, if_neg h0, erase_get, if_pos (by omega)]
  · rw [if_neg h1, if_neg (by omega), if_neg (by omega), erase_get, if_neg (by omega)]
    congr 1
    omega
theorem map_erase {α β : Type} (f : α → β) : ∀ (l : List α) (k : Nat), (l.eraseIdx k).map f = (l.map f).eraseIdx k
  | [], _ => rfl
  | _ :: _, 0 => rfl
  | a :: l, k + 1 => congrArg (f a :: ·) (map_erase f l k)
theorem lvs_del : lvs (σK σ b bs k) (bs.eraseIdx k) = (lvs σ bs).eraseIdx k := by
  show (bs.eraseIdx k).map σ.lev = _
  unfold lvs
  rw [map_erase]
theorem map_dn {o : Option Nat} (ho : ∀ q, o = some q → q ≠ k + 1) : (o.map (dnS k)).map (nd b (bs.eraseIdx k)) = o.map (nd b bs) := by
  cases o with
  | none => rfl
  | some q => exact congrArg some (nd_dn (ho q rfl))
theorem mem_erase {c : Nat} (h : c ∈ bs.eraseIdx k) : c ∈ bs := List.mem_of_mem_eraseIdx h
theorem lvl_del {p : Nat} (hp : p ≠ k + 1) (h0 : p ≠ 0) : lvl (σK σ b bs k) (bs.eraseIdx k) (dnS k p) = lvl σ bs p := by
  unfold lvl
  rw [if_neg (by unfold dnS; split <;> omega), if_neg h0, lvs_del, del_get]
  unfold dnS
  by_cases h1 : p ≤ k
  · rw [if_pos h1, if_pos (by omega)]
  · rw [if_neg h1, if_neg (by omega)]
    congr 1
    omega
theorem top_del (hX : Shape b bs σ) : top ((lvs σ bs).eraseIdx k) ≤ σ.H := by
  rcases top_in ((lvs σ bs).eraseIdx k) with h0 | h0
  · omega
  · have h1 := List.mem_of_mem_eraseIdx h0
    obtain ⟨c, hc, he⟩ := List.mem_map.mp h1
    have := (hX.lv1 c hc).2
    omega
theorem tow_del (hX : Shape b bs σ) (hnb : b ∉ bs) (hk : k < bs.length) {p i : Nat} (hp : p ≤ bs.length) (hi : i < σ.H) (hne : p ≠ prevP (lvs σ bs) i k) : (σK σ b bs k).tow (nd b bs p) i = σ.tow (nd b bs p) i := by
  have hP : prevP (lvs σ bs) i k ≤ bs.length := Nat.le_trans (prevP_spec (lvs σ bs) i k).le (by omega)
  show (if i < σ.H then Td σ b bs k (nd b bs p) i else _) = _
  rw [if_pos hi]
  unfold Td
  rw [if_neg (fun he => hne (nd_inj hnb hX.nodup hp hP he))]
theorem shape_del (hX : Shape b bs σ) (hnb : b ∉ bs) (hk : k < bs.length) : Shape b (bs.eraseIdx k) (σK σ b bs k) := by
  have hll : (lvs σ bs).length = bs.length := lvs_len σ bs
  have hkl : k < (lvs σ bs).length := by omega
  have hel : (bs.eraseIdx k).length = bs.length - 1 := del_length hk
  have hHK : (σK σ b bs k).H = top ((lvs σ bs).eraseIdx k) := rfl
  have htd := top_del (k := k) hX
  refine { len := ?_, small := ?_, nodup := hX.nodup.sublist (List.eraseIdx_sublist _ _), lv1 := ?_, H32 := ?_, Hex := ?_, tw := ?_, tz := ?_, bks := ?_, lst := ?_ }
  · show σ.n - 1 = _
    rw [hel, hX.len]
  · have := hX.small
    rw [hel]; omega
  · intro c hc
    refine ⟨(hX.lv1 c (mem_erase hc)).1, ?_⟩
    rw [hHK, ← lvs_del (b := b)]
    exact top_le (List.mem_map.mpr ⟨c, hc, rfl⟩)
  · have := hX.H32
    rw [hHK]; omega
  · rcases top_in ((lvs σ bs).eraseIdx k) with h0 | h0
    · exact .inl h0
    · rw [← lvs_del (b := b)] at h0
      obtain ⟨c, hc, he⟩ := List.mem_map.mp h0
      refine .inr ⟨c, hc, ?_⟩
      rw [he, hHK, lvs_del]
  · intro p' hp' i hi
    rw [hel] at hp'
    rw [lvs_del]
    obtain ⟨p, hpl, hpe, hpn⟩ : ∃ p, p ≤ bs.length ∧ p' = dnS k p ∧ p ≠ k + 1 := by
      by_cases hp : p' ≤ k
      · exact ⟨p', by omega, (dn_le hp).symm, by omega⟩
      · exact ⟨p' + 1, by omega, by rw [dn_gt (by omega)]; omega, by omega⟩
    subst hpe
    rw [nd_dn hpn]
    have hil : i < lvl σ bs p ∧ i < σ.H := by
      by_cases h0 : p = 0
      · subst h0
        have : i < top ((lvs σ bs).eraseIdx k) := hi
        exact ⟨show i < σ.H by omega, by omega⟩
      · rw [lvl_del hpn h0] at hi
        refine ⟨hi, ?_⟩
        rw [lvl_nd (b := b) (by omega) hpl] at hi
        have := (hX.lv1 _ (nd_mem' (b := b) (by omega) hpl)).2
        omega
    obtain ⟨o, s, hn, ht⟩ := hX.tw p hpl i hil.1
    have hon : p = 0 ∨ V (lvs σ bs) i p := by
      by_cases h0 : p = 0
      · exact .inl h0
      · exact .inr (V_lvl.mpr ⟨by omega, hil.1⟩)
    by_cases hpk : p ≤ k
    · by_cases hpp : p = prevP (lvs σ bs) i k
      · have htk : (σK σ b bs k).tow (nd b bs p) i = (if i < σ.lev (nd b bs (k + 1)) then ((σ.tow (nd b bs (k + 1)) i).1, (σ.tow (nd b bs p) i).2 + (σ.tow (nd b bs (k + 1)) i).2 - 1) else ((σ.tow (nd b bs p) i).1, (σ.tow (nd b bs p) i).2 - 1)) := by
          show (if i < σ.H then Td σ b bs k (nd b bs p) i else _) = _
          rw [if_pos hil.2]
          unfold Td
          rw [if_pos (by rw [← hpp])]
        rw [htk]
        by_cases hix : i < σ.lev (nd b bs (k + 1))
        · rw [if_pos hix]
          have hVx : V (lvs σ bs) i (k + 1) := V_lvl.mpr ⟨by omega, by rw [lvl_nd (b := b) (by omega) (by omega)]; exact hix⟩
          obtain ⟨o', s', hn', ht'⟩ := hX.tw (k + 1) (by omega) i (by rw [lvl_nd (b := b) (by omega) (by omega)]; exact hix)
          have hn2 := hn
          rw [hpp] at hn2
          obtain ⟨h1, h2⟩ := del_at_low hkl hVx hn2 hn'
          refine ⟨o'.map (dnS k), s + s' - 1, by rw [dn_le hpk, hpp]; exact h2, ?_⟩
          rw [map_dn (fun q hq => ?_), ht', ht]
          rw [hq] at hn'
          have := hn'.1
          omega
        · rw [if_neg hix]
          have hVx : ¬ V (lvs σ bs) i (k + 1) := fun hv => hix (by have := (V_lvl.mp hv).2; rwa [lvl_nd (b := b) (by omega) (by omega)] at this)
          have hn2 := hn
          rw [hpp] at hn2
          refine ⟨o.map (dnS k), s - 1, by rw [dn_le hpk, hpp]; exact del_at_high hkl hVx hn2, ?_⟩
          rw [map_dn (fun q hq => ?_), ht]
          rw [hq] at hn
          intro he
          subst he
          exact hVx hn.2.1
      · have hlt : p < prevP (lvs σ bs) i k := by
          have := prev_ge hpk hon
          omega
        refine ⟨o.map (dnS k), s, by rw [dn_le hpk]; exact del_ahead hlt hn, ?_⟩
        rw [map_dn (fun q hq => ?_), tow_del hX hnb hk hpl hil.2 hpp, ht]
        rw [hq] at hn
        have hs := prevP_spec (lvs σ bs) i k
        have hVp : V (lvs σ bs) i (prevP (lvs σ bs) i k) := by
          rcases hs.on with h0 | h0
          · omega
          · exact h0
        have hle := hs.le
        intro he
        subst he
        exact hn.2.2.1 _ hlt (by omega) hVp
    · have hlt : k + 1 < p := by omega
      have hpp : p ≠ prevP (lvs σ bs) i k := by
        have := (prevP_spec (lvs σ bs) i k).le
        omega
      refine ⟨o.map (dnS k), s, by rw [dn_gt (by omega)]; exact del_behind hkl hlt hn, ?_⟩
      rw [map_dn (fun q hq => ?_), tow_del hX hnb hk hpl hil.2 hpp, ht]
      rw [hq] at hn
      have := hn.1
      omega
  · intro c hc i hi hi32
    have hcb := mem_erase hc
    have hz := hX.tz c hcb i hi hi32
    have hsp := prevP_spec (lvs σ bs) i k
    have hPl : prevP (lvs σ bs) i k ≤ bs.length := Nat.le_trans hsp.le (by omega)
    show (if i < σ.H then Td σ b bs k c i else σ.tow c i).1 = none
    by_cases hiH : i < σ.H
    · rw [if_pos hiH]
      unfold Td
      rw [if_neg (fun he => ?_), hz]
      rcases hsp.on with h0 | hv
      · rw [h0] at he
        exact hnb (by have : c = b := he; rw [← this]; exact hcb)
      · have h2 := V_lvl.mp hv
        rw [lvl_nd (b := b) h2.1 hPl, ← he] at h2
        have : i < σ.lev c := h2.2
        have hi' : σ.lev c ≤ i := hi
        omega
    · rw [if_neg hiH, hz]
  · intro p' hp1 hp2
    rw [hel] at hp2
    obtain ⟨p, hpl, hpe, hpn, hpp⟩ : ∃ p, p ≤ bs.length ∧ p' = dnS k p ∧ p ≠ k + 1 ∧ 1 ≤ p := by
      by_cases hp : p' ≤ k
      · exact ⟨p', by omega, (dn_le hp).symm, by omega, hp1⟩
      · exact ⟨p' + 1, by omega, by rw [dn_gt (by omega)]; omega, by omega, by omega⟩
    subst hpe
    rw [nd_dn hpn]
    show (if k + 1 < bs.length ∧ nd b bs p = nd b bs (k + 2) then σ.bk (nd b bs (k + 1)) else σ.bk (nd b bs p)) = _
    have hprev : ∀ r, r ≤ k → nd b (bs.eraseIdx k) r = nd b bs r := fun r hr => by have := nd_dn (b := b) (bs := bs) (k := k) (show r ≠ k + 1 by omega); rwa [dn_le hr] at this
    by_cases hpk : p ≤ k
    · rw [if_neg (fun hh => by have := nd_inj hnb hX.nodup hpl (by omega) hh.2; omega), hX.bks p hpp hpl, dn_le hpk]
      by_cases h0 : p = 1
      · rw [if_pos h0, if_pos h0]
      · rw [if_neg h0, if_neg h0, hprev (p - 1) (by omega)]
    · rw [dn_gt (show k < p by omega)]
      by_cases hp2' : p = k + 2
      · subst hp2'
        rw [if_pos ⟨by omega, rfl⟩, hX.bks (k + 1) (by omega) (by omega), show k + 2 - 1 = k + 1 by omega, show k + 1 - 1 = k by omega]
        by_cases h0 : k = 0
        · rw [if_pos (by omega), if_pos (by omega)]
        · rw [if_neg (by omega), if_neg (by omega), hprev k (Nat.le_refl _)]
      · rw [if_neg (fun hh => hp2' (nd_inj hnb hX.nodup hpl (by omega) hh.2)), hX.bks p hpp hpl, if_neg (show ¬ p = 1 by omega), if_neg (show ¬ p - 1 = 1 by omega)]
        have := nd_dn (b := b) (bs := bs) (k := k) (show p - 1 ≠ k + 1 by omega)
        rw [dn_gt (by omega)] at this
        rw [this]
  · show (if k + 1 < bs.length then σ.last else σ.bk (nd b bs (k + 1))) = _
    rw [hel]
    by_cases hkl2 : k + 1 < bs.length
    · rw [if_pos hkl2, hX.lst, if_neg (show ¬ bs.length = 0 by omega), if_neg (show ¬ bs.length - 1 = 0 by omega)]
      have := nd_dn (b := b) (bs := bs) (k := k) (show bs.length ≠ k + 1 by omega)
      rw [dn_gt (by omega)] at this
      rw [this]
    · have hkb : k + 1 = bs.length := by omega
      rw [if_neg hkl2, hX.bks (k + 1) (by omega) (by omega)]
      by_cases h0 : k = 0
      · rw [if_pos (by omega), if_pos (by omega)]
      · rw [if_neg (by omega), if_neg (by omega), show k + 1 - 1 = k by omega, show bs.length - 1 = k by omega]
        have := nd_dn (b := b) (bs := bs) (k := k) (show k ≠ k + 1 by omega)
        rw [dn_le (Nat.le_refl _)] at this
        rw [this]
theorem ents_del : (bs.eraseIdx k).map (σK σ b bs k).E = (bs.map σ.E).eraseIdx k := by
  show (bs.eraseIdx k).map σ.E = _
  rw [map_erase]
/-- The head's link on a level is none just where nobody is left on it. -/
theorem head_none (hX : Shape b bs σ) (hnb : b ∉ bs) (hk : k < bs.length) {i : Nat} (hi : i < σ.H) : ((σK σ b bs k).tow b i).1 = none ↔ top ((lvs σ bs).eraseIdx k) ≤ i := by
  have hS := shape_del hX hnb hk
  by_cases ht : i < top ((lvs σ bs).eraseIdx k)
  · obtain ⟨o, s, hn, hl⟩ := hS.tw 0 (Nat.zero_le _) i ht
    replace hl : (σK σ b bs k).tow b i = (o.map (nd b (bs.eraseIdx k)), s) := hl
    rw [hl, lvs_del] at *
    constructor
    · intro h0
      cases o with
      | some q => cases h0
      | none =>
        rcases top_in ((lvs σ bs).eraseIdx k) with h1 | h1
        · omega
        · obtain ⟨j, hj, he⟩ := List.getElem_of_mem h1
          refine absurd ⟨?_, ?_⟩ (hn.1 (j + 1) (by omega))
          · omega
          · rw [show j + 1 - 1 = j by omega, List.getD_eq_getElem?_getD, List.getElem?_eq_getElem hj]
            show i < ((lvs σ bs).eraseIdx k)[j]
            omega
    · intro h0; omega
  · refine ⟨fun _ => by omega, fun _ => ?_⟩
    -- nobody is left: the only one on the level, if any, was the one that goes
    obtain ⟨o, s, hn, hl⟩ := hX.tw 0 (Nat.zero_le _) i hi
    replace hl : σ.tow b i = (o.map (nd b bs), s) := hl
    have hno : ∀ q, V ((lvs σ bs).eraseIdx k) i q → False := fun q hq => by
      have h1 := hq.2
      have h2 := V_le hq
      have hq1 := hq.1
      rw [List.getD_eq_getElem?_getD, List.getElem?_eq_getElem (by omega)] at h1
      have : ((lvs σ bs).eraseIdx k)[q - 1]'(by omega) ≤ top ((lvs σ bs).eraseIdx k) := top_le (List.getElem_mem _)
      have h3 : i < ((lvs σ bs).eraseIdx k)[q - 1]'(by omega) := h1
      omega
    have hV : ∀ q, V (lvs σ bs) i q → q = k + 1 := fun q hq => by
      by_cases he : q = k + 1
      · exact he
      · exact absurd ((V_dn he).mpr hq) (fun h => hno _ h)
    have hP : prevP (lvs σ bs) i k = 0 := by
      have hs := prevP_spec (lvs σ bs) i k
      rcases hs.on with h0 | h0
      · exact h0
      · have := hV _ h0
        have := hs.le
        omega
    show (if i < σ.H then Td σ b bs k b i else _).1 = none
    rw [if_pos hi]
    unfold Td
    rw [hP, if_pos (show b = nd b bs 0 from rfl)]
    by_cases hix : i < σ.lev (nd b bs (k + 1))
    · rw [if_pos hix]
      obtain ⟨o', s', hn', hl'⟩ := hX.tw (k + 1) (by omega) i (by rw [lvl_nd (b := b) (by omega) (by omega)]; exact hix)
      rw [hl']
      cases o' with
      | none => rfl
      | some q =>
        have := hV q hn'.2.1
        have := hn'.1
        omega
    · rw [if_neg hix, hl]
      cases o with
      | none => rfl
      | some q =>
        have hq := hV q hn.2.1
        subst hq
        have := (V_lvl.mp hn.2.1).2
        rw [lvl_nd (b := b) (by omega) (by omega)] at this
        exact absurd this hix
end
end Go.Proofs.Ytnlbdmiflihghaa.P

/- A node is taken out of the list. Conditions: each theorem names its own. -/
namespace Go.Proofs.Ytnlbdmiflihghaa.P
open Go.RowKit Go.Shelf Go.Proofs.YtnlbdmiflihghaaW.PrintWords Go.Proofs.YtnlbdmiflihghaaW.PrintLast Go.Proofs.YtnlbdmiflihghaaW.PrintMore Go.Proofs.Ytnlbdmiflihghaa.SK
attribute [local go_sem] Oper.semAt_some

/-- While the node is unlinked, level by level. -/
structure InsT (w : World) (b : Nat) (bs : List Nat) (σ : St) (k m : Nat) (W : World) : Prop where
  sk : Sk W b bs (σT σ b bs k m)
  ns : Bk W w.heap.size 68 32 (pathN b bs σ k)
  ft : Foot (b :: bs) w W
section
variable {w W W' : World} {b : Nat} {bs : List Nat} {σ : St} {k m : Nat}
theorem tT_at (c : Nat) : (σT σ b bs k m).tow c m = σ.tow c m := by
  show (if m < m then _ else _) = _
  rw [if_neg (Nat.lt_irrefl _)]
theorem tT_next (c : Nat) : (σT σ b bs k (m + 1)).tow c m = Td σ b bs k c m := by
  show (if m < m + 1 then _ else _) = _
  rw [if_pos (Nat.lt_succ_self _)]
theorem tT_other {c j : Nat} (hj : j ≠ m) : (σT σ b bs k m).tow c j = (σT σ b bs k (m + 1)).tow c j := by
  show (if j < m then Td σ b bs k c j else σ.tow c j) = (if j < m + 1 then Td σ b bs k c j else σ.tow c j)
  by_cases h1 : j < m
  · rw [if_pos h1, if_pos (show j < m + 1 by omega)]
  · rw [if_neg h1, if_neg (show ¬ j < m + 1 by omega)]
theorem InsT.of {t : Nat → Nat → Option Nat × Int} (hS : Sk W' b bs { σT σ b bs k m with tow := t }) (hns : Bk W' w.heap.size 68 32 (pathN b bs σ k)) (hft : Foot (b :: bs) w W') (ht : ∀ c j, t c j = if c = nd b bs (prevP (lvs σ bs) m k) ∧ j = m then Td σ b bs k c m else (σT σ b bs k m).tow c j) : InsT w b bs σ k (m + 1) W' := by
  refine ⟨hS.ext (fun _ _ => rfl) (fun _ _ => rfl) (fun c _ j _ => ?_) (fun _ _ => rfl) rfl rfl rfl, hns, hft⟩
  show t c j = _
  rw [ht]
  by_cases h1 : c = nd b bs (prevP (lvs σ bs) m k) ∧ j = m
  · rw [if_pos h1, h1.2, tT_next]
  · rw [if_neg h1]
    by_cases h2 : j = m
    · subst h2
      rw [tT_at, tT_next]
      unfold Td
      rw [if_neg (fun he => h1 ⟨he, rfl⟩)]
    · exact tT_other h2
theorem InsT.high (hT : InsT w b bs σ k m W) (hk : k ≤ bs.length) (hF : ∀ c, c ∈ b :: bs → c < w.heap.size) (hm32 : m < 32) (hmh : ¬ m < σ.lev (nd b bs (k + 1)))
    (hW : W.setCell ⟨nd b bs (prevP (lvs σ bs) m k), 2 + m * 2 + 1, none⟩ (.int .i64 ((σ.tow (nd b bs (prevP (lvs σ bs) m k)) m).2 - 1)) = W') : InsT w b bs σ k (m + 1) W' := by
  subst hW
  have hP : prevP (lvs σ bs) m k ≤ bs.length := Nat.le_trans (prevP_spec (lvs σ bs) m k).le hk
  have hPm := nd_mem (b := b) hP
  have hPl := hF _ hPm
  refine InsT.of (hT.sk.setSpan hPm hm32 _) (hT.ns.far (by omega) _ _) (hT.ft.setCell _ (.inl hPm)) (fun c j => ?_)
  show upd _ _ _ _ c j = _
  by_cases h1 : c = nd b bs (prevP (lvs σ bs) m k) ∧ j = m
  · obtain ⟨h2, h3⟩ := h1
    subst h2 h3
    rw [if_pos ⟨rfl, rfl⟩, upd_same, tT_at]
    unfold Td
    rw [if_pos rfl, if_neg hmh]
  · rw [if_neg h1, upd_ne _ _ h1]
theorem InsT.mid (hT : InsT w b bs σ k m W) (hk : k ≤ bs.length) (hm32 : m < 32) (o : Option Nat) (s : Int) (W1 : World) (hW1 : ((W.setCell ⟨nd b bs (prevP (lvs σ bs) m k), 2 + m * 2, none⟩ (ptr o)).setCell ⟨nd b bs (prevP (lvs σ bs) m k), 2 + m * 2 + 1, none⟩ (.int .i64 s)).drew = W1) :
    W1.cell? ⟨nd b bs (prevP (lvs σ bs) m k), 2 + m * 2 + 1, none⟩ = some (.int .i64 s) ∧ W1.frozen? ⟨nd b bs (prevP (lvs σ bs) m k), 2 + m * 2 + 1, none⟩ = false := by
  subst hW1
  have hP : prevP (lvs σ bs) m k ≤ bs.length := Nat.le_trans (prevP_spec (lvs σ bs) m k).le hk
  have hPm := nd_mem (b := b) hP
  have hs := (hT.sk.setLink hPm hm32 o s).drew
  have h1 := hs.span_ hPm hm32
  have h2 : (upd (σT σ b bs k m).tow (nd b bs (prevP (lvs σ bs) m k)) m (o, s) (nd b bs (prevP (lvs σ bs) m k)) m) = (o, s) := upd_same _ _ _ _
  refine ⟨?_, hs.frozen hPm _⟩
  refine h1.trans ?_
  show some (Value.int .i64 (upd (σT σ b bs k m).tow (nd b bs (prevP (lvs σ bs) m k)) m (o, s) (nd b bs (prevP (lvs σ bs) m k)) m).2) = _
  rw [h2]
theorem InsT.low (hT : InsT w b bs σ k m W) (hk : k ≤ bs.length) (hF : ∀ c, c ∈ b :: bs → c < w.heap.size) (hm32 : m < 32) (hmh : m < σ.lev (nd b bs (k + 1))) (W1 : World)
    (hW1 : ((W.setCell ⟨nd b bs (prevP (lvs σ bs) m k), 2 + m * 2, none⟩ (ptr (σ.tow (nd b bs (k + 1)) m).1)).setCell ⟨nd b bs (prevP (lvs σ bs) m k), 2 + m * 2 + 1, none⟩ (.int .i64 ((σ.tow (nd b bs (prevP (lvs σ bs) m k)) m).2 + (σ.tow (nd b bs (k + 1)) m).2))).drew = W1)
    (hW : W1.setCell ⟨nd b bs (prevP (lvs σ bs) m k), 2 + m * 2 + 1, none⟩ (.int .i64 ((σ.tow (nd b bs (prevP (lvs σ bs) m k)) m).2 + (σ.tow (nd b bs (k + 1)) m).2 - 1)) = W') : InsT w b bs σ k (m + 1) W' := by
  subst hW1
  subst hW
  have hP : prevP (lvs σ bs) m k ≤ bs.length := Nat.le_trans (prevP_spec (lvs σ bs) m k).le hk
  have hPm := nd_mem (b := b) hP
  have hPl := hF _ hPm
  refine InsT.of ((hT.sk.setLink hPm hm32 _ _).drew.setSpan hPm hm32 _) ((((hT.ns.far (by omega) _ _).far (by omega) _ _).drew).far (by omega) _ _) ((((hT.ft.setCell _ (.inl hPm)).setCell _ (.inl hPm)).drew).setCell _ (.inl hPm)) (fun c j => ?_)
  show upd (upd _ _ _ _) _ _ _ c j = _
  by_cases h1 : c = nd b bs (prevP (lvs σ bs) m k) ∧ j = m
  · obtain ⟨h2, h3⟩ := h1
    subst h2 h3
    rw [if_pos ⟨rfl, rfl⟩, upd_same]
    show ((upd (σT σ b bs k j).tow _ j _ _ j).1, _) = _
    rw [upd_same]
    unfold Td
    rw [if_pos rfl, if_pos hmh]
  · rw [if_neg h1, upd_ne _ _ h1, upd_ne _ _ h1]
end
theorem link_small {σ : St} {b : Nat} {bs : List Nat} (hX : Shape b bs σ) {p i : Nat} (hp : p ≤ bs.length) (hi : i < lvl σ bs p) : -1000 ≤ (σ.tow (nd b bs p) i).2 ∧ (σ.tow (nd b bs p) i).2 ≤ 1000 := by
  obtain ⟨o, s, hn, ht⟩ := hX.tw p hp i hi
  have hsm := hX.small
  rw [ht]
  show -1000 ≤ s ∧ s ≤ 1000
  cases o with
  | none =>
    have := hn.2
    rw [lvs_len] at this
    omega
  | some q =>
    obtain ⟨h1, h2, h3, h4⟩ := hn
    have := V_le h2
    rw [lvs_len] at this
    omega
theorem prev_lvl {σ : St} {bs : List Nat} {m k : Nat} (hm : m < σ.H) : m < lvl σ bs (prevP (lvs σ bs) m k) := by
  rcases (prevP_spec (lvs σ bs) m k).on with h0 | hv
  · rw [h0]; exact hm
  · exact (V_lvl.mp hv).2
theorem hX_pos {σ : St} {b : Nat} {bs : List Nat} {k : Nat} (hX : Shape b bs σ) (hk : k < bs.length) : 1 ≤ σ.lev (nd b bs (k + 1)) ∧ σ.lev (nd b bs (k + 1)) ≤ σ.H := hX.lv1 _ (nd_mem' (b := b) (by omega) (by omega))
/-- What the one that goes leads to. -/
theorem next_del {σ : St} {b : Nat} {bs : List Nat} {k : Nat} (hX : Shape b bs σ) (hnb : b ∉ bs) (hk : k < bs.length) (hpos : 0 < σ.H) : ((σT σ b bs k σ.H).tow (nd b bs (k + 1)) 0).1 = if k + 1 < bs.length then some (nd b bs (k + 2)) else none := by
  obtain ⟨s, hs⟩ := next_link hX (show k + 1 ≤ bs.length by omega) hpos
  show (if 0 < σ.H then Td σ b bs k (nd b bs (k + 1)) 0 else _).1 = _
  rw [if_pos hpos]
  unfold Td
  rw [prev0 hX (show k ≤ bs.length by omega), if_neg (fun he => by have := nd_inj hnb hX.nodup (by omega) (by omega) he; omega), hs]
/-- The levels unlinked, the link back of the next one, or the last one, laid. -/
structure InsU (w : World) (b : Nat) (bs : List Nat) (σ : St) (k H : Nat) (W : World) : Prop where
  sk : Sk W b bs { σK σ b bs k with H := H, n := σ.n }
  ft : Foot (b :: bs) w W
theorem InsT.next {w W W' : World} {b : Nat} {bs : List Nat} {σ : St} {k : Nat} (hT : InsT w b bs σ k σ.H W) (hkl : k + 1 < bs.length) (hW : W.setCell ⟨nd b bs (k + 2), 67, none⟩ (ptr (σ.bk (nd b bs (k + 1)))) = W') : InsU w b bs σ k σ.H W' := by
  subst hW
  have hm := nd_mem' (b := b) (show 1 ≤ k + 2 by omega) (show k + 2 ≤ bs.length by omega)
  refine ⟨(hT.sk.setBk hm _).ext (fun _ _ => rfl) (fun _ _ => rfl) (fun _ _ _ _ => rfl) (fun c _ => ?_) ?_ rfl rfl, hT.ft.setCell _ (.inl (List.mem_cons_of_mem _ hm))⟩
  · show (if c = nd b bs (k + 2) then σ.bk (nd b bs (k + 1)) else σ.bk c) = (if k + 1 < bs.length ∧ c = nd b bs (k + 2) then σ.bk (nd b bs (k + 1)) else σ.bk c)
    by_cases h1 : c = nd b bs (k + 2)
    · rw [if_pos h1, if_pos ⟨hkl, h1⟩]
    · rw [if_neg h1, if_neg (fun hh => h1 hh.2)]
  · show σ.last = if k + 1 < bs.length then σ.last else _
    rw [if_pos hkl]
theorem InsT.last {w W W' : World} {b : Nat} {bs : List Nat} {σ : St} {k : Nat} (hT : InsT w b bs σ k σ.H W) (hkl : ¬ k + 1 < bs.length) (hW : W.setCell ⟨b, 68, none⟩ (ptr (σ.bk (nd b bs (k + 1)))) = W') : InsU w b bs σ k σ.H W' := by
  subst hW
  refine ⟨(hT.sk.setLast _).ext (fun _ _ => rfl) (fun _ _ => rfl) (fun _ _ _ _ => rfl) (fun c _ => ?_) ?_ rfl rfl, hT.ft.setCell _ (.inl List.mem_cons_self)⟩
  · show σ.bk c = (if k + 1 < bs.length ∧ c = nd b bs (k + 2) then σ.bk (nd b bs (k + 1)) else σ.bk c)
    rw [if_neg (fun hh => hkl hh.1)]
  · show σ.bk (nd b bs (k + 1)) = if k + 1 < bs.length then σ.last else _
    rw [if_neg hkl]
theorem InsU.dec {w W W' : World} {b : Nat} {bs : List Nat} {σ : St} {k cur : Nat} (hU : InsU w b bs σ k cur W) (c : Nat) (nq : Nat) (hW : (W.drewN nq).setCell ⟨b, 69, none⟩ (.int .i64 (c : Int)) = W') : InsU w b bs σ k c W' := by
  subst hW
  have h1 : Sk (W.drewN nq) b bs { σK σ b bs k with H := cur, n := σ.n } := hU.sk.move (fun _ _ => rfl)
  exact ⟨h1.setH c, (hU.ft.below (pw_below_drewN (Below.refl _ _) nq)).setCell _ (.inl List.mem_cons_self)⟩
theorem InsU.fin {w W W' : World} {b : Nat} {bs : List Nat} {σ : St} {k cur : Nat} (hX : Shape b bs σ) (hk : k < bs.length) (hU : InsU w b bs σ k cur W) (ht : top ((lvs σ bs).eraseIdx k) = cur) (nq : Nat) (hW : (W.drewN nq).setCell ⟨b, 70, none⟩ (.int .i64 ((σ.n : Int) - 1)) = W') : Sk W' b bs (σK σ b bs k) ∧ Foot (b :: bs) w W' := by
  subst hW
  have h1 : Sk (W.drewN nq) b bs { σK σ b bs k with H := cur, n := σ.n } := hU.sk.move (fun _ _ => rfl)
  have hn : (σ.n : Int) - 1 = ((σ.n - 1 : Nat) : Int) := by have := hX.len; omega
  rw [hn]
  exact ⟨(h1.setN (σ.n - 1)).ext (fun _ _ => rfl) (fun _ _ => rfl) (fun _ _ _ _ => rfl) (fun _ _ => rfl) rfl ht.symm rfl, (hU.ft.below (pw_below_drewN (Below.refl _ _) nq)).setCell _ (.inl List.mem_cons_self)⟩
set_option maxHeartbeats 8000000 in
set_option maxRecDepth 100000 in
theorem takes_calls (b : Nat) (bs : List Nat) (σ : St) (k : Nat) (hk : k < bs.length) (w : World) (hS : Sk w b bs σ) (hX : Shape b bs σ) :
    Calls Try.prog 39 #[.pointer (some ⟨b, 0, none⟩), .pointer (some ⟨nd b bs (k + 1), 0, none⟩), .agg (row32 (pathN b bs σ k)).toArray] w fun e w' => e = .returned (.tuple #[]) ∧ Sk w' b bs (σK σ b bs k) ∧ Foot (b :: bs) w w' := by
  have hH := hS.H_
  have hbl := hS.head.lt
  have hH32 := hX.H32
  have hF := fun c hc => hS.lt (c := c) hc
  have l1 := row32_len (pathN b bs σ k)
  have HS := Aside0.mk hS
  have HX := Aside0.mk hX
  have HF := Aside0.mk hF
  clear hS hX hF
  go_enter Try.func39, Try.ntmps39
  go_upto_region 1 with fail
  have hbk := bk_range (N := 32) (f := pathN b bs σ k) (World.alloc_heap_new w (.cells (row32 (pathN b bs σ k)).toArray 68)) rfl
  have hb1 : Below w.heap.size w (w.alloc (.cells (row32 (pathN b bs σ k)).toArray 68)) := below_alloc (Below.refl _ _) _
  have hT0 : InsT w b bs σ k 0 (w.alloc (.cells (row32 (pathN b bs σ k)).toArray 68)) := ⟨(HS.out.below hb1).ext (fun _ _ => rfl) (fun _ _ => rfl) (fun _ _ _ _ => rfl) (fun _ _ => rfl) rfl rfl rfl, hbk, Foot.of hb1⟩
  generalize World.alloc w _ = w1 at hT0 ⊢
  have hH1 := hT0.sk.H_
  replace hH1 : w1.cell? ⟨b, 69, none⟩ = some (.int .i64 (σ.H : Int)) := hH1
  have HT := Aside0.mk hT0
  clear hbk hb1 hT0 hH l1
  go_wp2
  clear hH1
  go_loopg [13] σ.H (fun gk v13 wr => ∃ m : Nat, v13 = .int .i64 (m : Int) ∧ m ≤ σ.H ∧ gk = σ.H - m ∧ Aside0 (InsT w b bs σ k m wr))
  case atStart => exact ⟨0, rfl, Nat.zero_le _, rfl, HT⟩
  case round =>
    clear HT
    obtain ⟨m, rfl, hm, hgk, HT⟩ := hrel
    by_cases hmH : m < σ.H
    · have hm32 : m < 32 := by omega
      have hm32z : (m : Int) < 32 := by omega
      have hmHz : (m : Int) < (σ.H : Int) := by omega
      have hP : prevP (lvs σ bs) m k ≤ bs.length := Nat.le_trans (prevP_spec (lvs σ bs) m k).le (by omega)
      have hPm := nd_mem (b := b) hP
      have hxm := nd_mem' (b := b) (show 1 ≤ k + 1 by omega) (show k + 1 ≤ bs.length by omega)
      have hxm2 : nd b bs (k + 1) ∈ b :: bs := List.mem_cons_of_mem _ hxm
      have hPlt := HF.out _ hPm
      have hsm1 := link_small HX.out hP (prev_lvl (bs := bs) (k := k) hmH)
      have hcn := HT.out.ns.cell hm32
      have hrn : pathN b bs σ k m = .pointer (some ⟨nd b bs (prevP (lvs σ bs) m k), 0, none⟩) := by unfold pathN; rw [if_pos hmH]; rfl
      rw [hrn] at hcn
      have hto := HT.out.sk.to_ hPm hm32
      have hsn := HT.out.sk.span_ hPm hm32
      have hxt := HT.out.sk.to_ hxm2 hm32
      have hxs := HT.out.sk.span_ hxm2 hm32
      have hxl := HT.out.sk.lev_ hxm
      replace hxl : wr.cell? ⟨nd b bs (k + 1), 66, none⟩ = some (.int .i64 (σ.lev (nd b bs (k + 1)) : Int)) := hxl
      have f0 := HT.out.sk.frozen hPm (2 + m * 2)
      have f1 := HT.out.sk.frozen hPm (2 + m * 2 + 1)
      rw [tT_at] at hto hsn hxt hxs
      rw [ptr_eq2] at hto hxt
      clear hrn
      by_cases hmh : m < σ.lev (nd b bs (k + 1))
      · have hsm2 := link_small HX.out (show k + 1 ≤ bs.length by omega) (show m < lvl σ bs (k + 1) by rw [lvl_nd (b := b) (by omega) (by omega)]; exact hmh)
        have HFin := Aside0.mk (fun W1 W' => HT.out.low (W' := W') (show k ≤ bs.length by omega) HF.out hm32 hmh W1)
        have HMid := Aside0.mk (HT.out.mid (show k ≤ bs.length by omega) hm32 (σ.tow (nd b bs (k + 1)) m).1 ((σ.tow (nd b bs (prevP (lvs σ bs) m k)) m).2 + (σ.tow (nd b bs (k + 1)) m).2))
        rw [ptr_eq2] at HFin HMid
        clear HT hxm hxm2 hPm hP
        generalize (σ.tow (nd b bs (prevP (lvs σ bs) m k)) m).1 = o0 at hto
        generalize (σ.tow (nd b bs (prevP (lvs σ bs) m k)) m).2 = s0 at hsn HFin HMid hsm1
        generalize (σ.tow (nd b bs (k + 1)) m).1 = o1 at hxt HFin HMid
        generalize (σ.tow (nd b bs (k + 1)) m).2 = s1 at hxs HFin HMid hsm2
        generalize Option.map _ o0 = P0 at hto
        generalize Option.map _ o1 = P1 at hxt HFin HMid
        generalize hlx : σ.lev (nd b bs (k + 1)) = lx at hxl hmh
        generalize nd b bs (prevP (lvs σ bs) m k) = c at hcn hPlt hto hsn f0 f1 HFin HMid
        have hmhz : (m : Int) < (lx : Int) := by omega
        have hw1 : IntKind.i64.wrap (s0 + s1) = s0 + s1 := IntWalk.i64_in _ (by omega)
        have hw2 : IntKind.i64.wrap (s0 + s1 - 1) = s0 + s1 - 1 := IntWalk.i64_in _ (by omega)
        clear hlx
        go_wp2
        go_region
        generalize hW1 : World.drew _ = W1
        obtain ⟨m1, m2⟩ := HMid.out W1 hW1
        have HW1 := Aside0.mk hW1
        clear hW1 hcn hto hsn hxt hxs hxl f0 f1
        go_wp2
        have HT2 := Aside0.mk (HFin.out W1 _ HW1.out rfl)
        go_roundg (σ.H - (m + 1))
        case measure => omega
        case rel => exact ⟨m + 1, congrArg (Value.int .i64) (by first | exact wrap_succ m (by omega) | omega), by omega, rfl, HT2⟩
      · have HFin := Aside0.mk (fun W' => HT.out.high (W' := W') (show k ≤ bs.length by omega) HF.out hm32 hmh)
        clear HT hxm hxm2 hPm hP hxt hxs hto
        generalize (σ.tow (nd b bs (prevP (lvs σ bs) m k)) m).2 = s0 at hsn HFin hsm1
        generalize hlx : σ.lev (nd b bs (k + 1)) = lx at hxl hmh
        generalize nd b bs (prevP (lvs σ bs) m k) = c at hcn hPlt hsn f0 f1 HFin
        have hmhz : ¬ (m : Int) < (lx : Int) := by omega
        have hw2 : IntKind.i64.wrap (s0 - 1) = s0 - 1 := IntWalk.i64_in _ (by omega)
        clear hlx
        go_wp2
        have HT2 := Aside0.mk (HFin.out _ rfl)
        go_roundg (σ.H - (m + 1))
        case measure => omega
        case rel => exact ⟨m + 1, congrArg (Value.int .i64) (by first | exact wrap_succ m (by omega) | omega), by omega, rfl, HT2⟩
    · have hmHz : ¬ (m : Int) < (σ.H : Int) := by omega
      obtain rfl : m = σ.H := by omega
      clear hgk hm
      have hpos : 0 < σ.H := by
        have := (hX_pos HX.out hk)
        omega
      have hxm := nd_mem' (b := b) (show 1 ≤ k + 1 by omega) (show k + 1 ≤ bs.length by omega)
      have hxm2 : nd b bs (k + 1) ∈ b :: bs := List.mem_cons_of_mem _ hxm
      have hnx := HT.out.sk.to_ hxm2 (show 0 < 32 by omega)
      rw [next_del HX.out HS.out.ne hk hpos] at hnx
      have hbx := HT.out.sk.bk_ hxm
      replace hbx : wr.cell? ⟨nd b bs (k + 1), 67, none⟩ = some (ptr (σ.bk (nd b bs (k + 1)))) := hbx
      rw [ptr_eq2] at hbx
      have hl8 := HT.out.sk.last_
      rw [ptr_eq2] at hl8
      generalize Option.map _ (σT σ b bs k σ.H).last = lv8 at hl8
      have fb := HT.out.sk.frozen (c := b) List.mem_cons_self 68
      by_cases hkl : k + 1 < bs.length
      · rw [if_pos hkl] at hnx
        replace hnx : wr.cell? ⟨nd b bs (k + 1), 2, none⟩ = some (.pointer (some ⟨nd b bs (k + 2), 0, none⟩)) := hnx
        have hm8 := nd_mem' (b := b) (show 1 ≤ k + 2 by omega) (show k + 2 ≤ bs.length by omega)
        have hb8 := HT.out.sk.bk_ hm8
        rw [ptr_eq2] at hb8
        generalize Option.map _ ((σT σ b bs k σ.H).bk (nd b bs (k + 2))) = bv8 at hb8
        have fn8 := HT.out.sk.frozen (List.mem_cons_of_mem _ hm8) 67
        have HFin := Aside0.mk (fun W' => HT.out.next (W' := W') hkl)
        rw [ptr_eq2] at HFin
        generalize Option.map _ (σ.bk (nd b bs (k + 1))) = Pb at hbx HFin
        clear HT hm8 hxm hxm2
        go_upto_region 13 with fail
        have hU := HFin.out _ rfl
        generalize World.setCell _ _ _ = w8 at hU ⊢
        clear HFin hnx hb8 hbx hl8 fn8 fb
        have HU := Aside0.mk hU
        clear hU
        go_loopg [] σ.H (fun gk wr => gk ≤ σ.H ∧ top ((lvs σ bs).eraseIdx k) ≤ gk ∧ Aside0 (InsU w b bs σ k gk wr))
        case atStart => exact ⟨Nat.le_refl _, top_del HX.out, HU⟩
        case round =>
          clear HU
          obtain ⟨hc1, hc2, HU⟩ := hrel

          have hH9 := HU.out.sk.H_
          replace hH9 : wr.cell? ⟨b, 69, none⟩ = some (.int .i64 (gk : Int)) := hH9
          have hn9 := HU.out.sk.n_
          replace hn9 : wr.cell? ⟨b, 70, none⟩ = some (.int .i64 (σ.n : Int)) := hn9
          have f69 := HU.out.sk.frozen (c := b) List.mem_cons_self 69
          have f70 := HU.out.sk.frozen (c := b) List.mem_cons_self 70
          have hnb : (σ.n : Int) = (bs.length : Int) := by have := HX.out.len; omega
          have hsm := HX.out.small
          have hnw : IntKind.i64.wrap ((σ.n : Int) - 1) = (σ.n : Int) - 1 := IntWalk.i64_in _ (by omega)
          by_cases h0 : gk = 0
          · subst h0
            have HFin := Aside0.mk (fun nq W' => InsU.fin (W' := W') HX.out hk HU.out (show top ((lvs σ bs).eraseIdx k) = 0 by omega) nq)
            clear HU hnb
            go_wp2
            go_quiet (fail)
            go_wp2
            obtain ⟨p1, p2⟩ := HFin.out nq _ rfl
            go_end0
            exact ⟨rfl, p1, p2⟩
          · have hcz : (0 : Int) < (gk : Int) := by omega
            have hcn : 0 < gk := by omega
            have hc32 : (gk : Int) - 1 < 32 := by omega
            have hcw : IntKind.i64.wrap ((gk : Int) - 1) = ((gk - 1 : Nat) : Int) := by rw [show (gk : Int) - 1 = ((gk - 1 : Nat) : Int) by omega]; exact IntWalk.i64_in _ (by omega)
            have hc3 : ((gk - 1 : Nat) : Int) < 32 := by omega
            have hto := HU.out.sk.to_ (c := b) List.mem_cons_self (show gk - 1 < 32 by omega)
            have hno := head_none (k := k) HX.out HS.out.ne hk (show gk - 1 < σ.H by omega)
            replace hto : wr.cell? ⟨b, 2 + (gk - 1) * 2, none⟩ = some (ptr ((σK σ b bs k).tow b (gk - 1)).1) := hto
            cases ho : ((σK σ b bs k).tow b (gk - 1)).1 with
            | none =>
              rw [ho] at hto
              replace hto : wr.cell? ⟨b, 2 + (gk - 1) * 2, none⟩ = some (.pointer none) := hto
              have ht := hno.mp ho
              have HFin := Aside0.mk (fun nq W' => HU.out.dec (W' := W') (gk - 1) nq)
              clear HU hnb hno ho
              go_wp2
              go_quiet (fail)
              go_wp2
              have HU2 := Aside0.mk (HFin.out nq _ rfl)
              go_roundg (gk - 1)
              case measure => omega
              case rel => exact ⟨by omega, ht, HU2⟩
            | some c9 =>
              rw [ho] at hto hno
              replace hto : wr.cell? ⟨b, 2 + (gk - 1) * 2, none⟩ = some (.pointer (some ⟨c9, 0, none⟩)) := hto
              have ht : top ((lvs σ bs).eraseIdx k) = gk := by
                rcases Nat.lt_or_ge (gk - 1) (top ((lvs σ bs).eraseIdx k)) with h9 | h9
                · omega
                · exact absurd (hno.mpr h9) (by simp)
              have HFin := Aside0.mk (fun nq W' => InsU.fin (W' := W') HX.out hk HU.out ht nq)
              clear HU hnb hno ho ht
              go_wp2
              go_quiet (fail)
              go_wp2
              obtain ⟨p1, p2⟩ := HFin.out nq _ rfl
              go_end0
              exact ⟨rfl, p1, p2⟩
      · rw [if_neg hkl] at hnx
        replace hnx : wr.cell? ⟨nd b bs (k + 1), 2, none⟩ = some (.pointer none) := hnx
        have HFin := Aside0.mk (fun W' => HT.out.last (W' := W') hkl)
        rw [ptr_eq2] at HFin
        generalize Option.map _ (σ.bk (nd b bs (k + 1))) = Pb at hbx HFin
        clear HT hxm hxm2
        go_upto_region 13 with fail
        have hU := HFin.out _ rfl
        generalize World.setCell _ _ _ = w8 at hU ⊢
        clear HFin hnx hbx hl8 fb
        have HU := Aside0.mk hU
        clear hU
        go_loopg [] σ.H (fun gk wr => gk ≤ σ.H ∧ top ((lvs σ bs).eraseIdx k) ≤ gk ∧ Aside0 (InsU w b bs σ k gk wr))
        case atStart => exact ⟨Nat.le_refl _, top_del HX.out, HU⟩
        case round =>
          clear HU
          obtain ⟨hc1, hc2, HU⟩ := hrel

          have hH9 := HU.out.sk.H_
          replace hH9 : wr.cell? ⟨b, 69, none⟩ = some (.int .i64 (gk : Int)) := hH9
          have hn9 := HU.out.sk.n_
          replace hn9 : wr.cell? ⟨b, 70, none⟩ = some (.int .i64 (σ.n : Int)) := hn9
          have f69 := HU.out.sk.frozen (c := b) List.mem_cons_self 69
          have f70 := HU.out.sk.frozen (c := b) List.mem_cons_self 70
          have hnb : (σ.n : Int) = (bs.length : Int) := by have := HX.out.len; omega
          have hsm := HX.out.small
          have hnw : IntKind.i64.wrap ((σ.n : Int) - 1) = (σ.n : Int) - 1 := IntWalk.i64_in _ (by omega)
          by_cases h0 : gk = 0
          · subst h0
            have HFin := Aside0.mk (fun nq W' => InsU.fin (W' := W') HX.out hk HU.out (show top ((lvs σ bs).eraseIdx k) = 0 by omega) nq)
            clear HU hnb
            go_wp2
            go_quiet (fail)
            go_wp2
            obtain ⟨p1, p2⟩ := HFin.out nq _ rfl
            go_end0
            exact ⟨rfl, p1, p2⟩
          · have hcz : (0 : Int) < (gk : Int) := by omega
            have hcn : 0 < gk := by omega
            have hc32 : (gk : Int) - 1 < 32 := by omega
            have hcw : IntKind.i64.wrap ((gk : Int) - 1) = ((gk - 1 : Nat) : Int) := by rw [show (gk : Int) - 1 = ((gk - 1 : Nat) : Int) by omega]; exact IntWalk.i64_in _ (by omega)
            have hc3 : ((gk - 1 : Nat) : Int) < 32 := by omega
            have hto := HU.out.sk.to_ (c := b) List.mem_cons_self (show gk - 1 < 32 by omega)
            have hno := head_none (k := k) HX.out HS.out.ne hk (show gk - 1 < σ.H by omega)
            replace hto : wr.cell? ⟨b, 2 + (gk - 1) * 2, none⟩ = some (ptr ((σK σ b bs k).tow b (gk - 1)).1) := hto
            cases ho : ((σK σ b bs k).tow b (gk - 1)).1 with
            | none =>
              rw [ho] at hto
              replace hto : wr.cell? ⟨b, 2 + (gk - 1) * 2, none⟩ = some (.pointer none) := hto
              have ht := hno.mp ho
              have HFin := Aside0.mk (fun nq W' => HU.out.dec (W' := W') (gk - 1) nq)
              clear HU hnb hno ho
              go_wp2
              go_quiet (fail)
              go_wp2
              have HU2 := Aside0.mk (HFin.out nq _ rfl)
              go_roundg (gk - 1)
              case measure => omega
              case rel => exact ⟨by omega, ht, HU2⟩
            | some c9 =>
              rw [ho] at hto hno
              replace hto : wr.cell? ⟨b, 2 + (gk - 1) * 2, none⟩ = some (.pointer (some ⟨c9, 0, none⟩)) := hto
              have ht : top ((lvs σ bs).eraseIdx k) = gk := by
                rcases Nat.lt_or_ge (gk - 1) (top ((lvs σ bs).eraseIdx k)) with h9 | h9
                · omega
                · exact absurd (hno.mpr h9) (by simp)
              have HFin := Aside0.mk (fun nq W' => InsU.fin (W' := W') HX.out hk HU.out ht nq)
              clear HU hnb hno ho ht
              go_wp2
              go_quiet (fail)
              go_wp2
              obtain ⟨p1, p2⟩ := HFin.out nq _ rfl
              go_end0
              exact ⟨rfl, p1, p2⟩
end Go.Proofs.Ytnlbdmiflihghaa.P

/- Delete, Cut, Back. Conditions: each theorem names its own. -/
namespace Go.Proofs.Ytnlbdmiflihghaa.P
open Go.RowKit Go.Shelf Go.Proofs.YtnlbdmiflihghaaW.PrintWords Go.Proofs.YtnlbdmiflihghaaW.PrintLast Go.Proofs.YtnlbdmiflihghaaW.PrintMore Go.Proofs.Ytnlbdmiflihghaa.SK
attribute [local go_sem] Oper.semAt_some

theorem still_load {P : Program} {op : Oper} {a : Act} {w : World} {K : Act → Prop} (ty : TypeId) (x : Operand) (ho : op.op = .load ty x) {v u : Value} (hx : a.eval x = v) (hl : (Instr.loadAt ty v).run P w = .ok u w) (h : K (a.put op.dst u)) : op.still P a w K := by
  unfold Oper.still execOp
  simp only [ho, hx, Sem.run_bind, hl, Result.andThen_ok, Sem.run_pure, Oper.stillUpon_value]
  exact h
set_option maxHeartbeats 2000000 in
set_option maxRecDepth 100000 in
theorem delete_no (b : Nat) (bs : List Nat) (σ : St) (e : En) (w : World) (hS : Sk w b bs σ) (hX : Shape b bs σ) (hs : Srt (bs.map σ.E)) (hin : isin e (bs.map σ.E) = false) :
    Calls Try.prog 27 #[.pointer (some ⟨b, 0, none⟩), .agg #[.string e.1, .int .i64 e.2]] w fun r w' => r = .returned (.bool false) ∧ Below w.heap.size w w' := by
  have hb1 : Below w.heap.size w (w.alloc (.cells #[.string e.1, .int .i64 e.2] 28)) := below_alloc (Below.refl _ _) _
  have hsk := seek_calls b bs σ e _ (hS.below hb1) hX hs
  rw [hin] at hsk
  have HB := Aside0.mk hb1
  clear hS hX hs hin hb1
  go_enter Try.func27, Try.ntmps27
  go_wp2_with fail
  refine hsk.mono ?_
  rintro r w2 ⟨rfl, hb2⟩
  go_wp2
  go_ret
  exact ⟨rfl, HB.out.trans (hb2.mono HB.out.size)⟩
set_option maxHeartbeats 8000000 in
set_option maxRecDepth 100000 in
theorem delete_yes (b : Nat) (bs : List Nat) (σ : St) (e : En) (w : World) (hS : Sk w b bs σ) (hX : Shape b bs σ) (hs : Srt (bs.map σ.E)) (hin : isin e (bs.map σ.E) = true) :
    Calls Try.prog 27 #[.pointer (some ⟨b, 0, none⟩), .agg #[.string e.1, .int .i64 e.2]] w fun r w' => r = .returned (.bool true) ∧ Sk w' b bs (σK σ b bs (rank e (bs.map σ.E))) ∧ Foot (b :: bs) w w' := by
  have hkl : rank e (bs.map σ.E) < bs.length := by
    obtain ⟨h, _⟩ := (mem_rank e _ hs).mp (isin_iff.mp hin)
    rwa [List.length_map] at h
  have hb1 : Below w.heap.size w (w.alloc (.cells #[.string e.1, .int .i64 e.2] 28)) := below_alloc (Below.refl _ _) _
  have hsk := seek_calls b bs σ e _ (hS.below hb1) hX hs
  have hyb := ent_new w e
  rw [hin] at hsk
  have HS := Aside0.mk hS
  have HX := Aside0.mk hX
  have HO := Aside0.mk hs
  generalize hke : rank e (bs.map σ.E) = k at hkl hsk
  have HKE := Aside0.mk hke
  clear hS hX hs hin hke
  go_enter Try.func27, Try.ntmps27
  go_wp2_with fail
  generalize World.alloc w _ = w1 at hb1 hyb hsk ⊢
  refine hsk.mono ?_
  rintro r w2 ⟨rfl, hb2⟩
  have hb2' : Below w.heap.size w w2 := hb1.trans (hb2.mono hb1.size)
  replace hyb := hyb.below hb2
  have hy0 := ent_0 hyb
  have hy1 := ent_1 hyb
  have ht := to_calls b bs σ e w2 (HS.out.below hb2') HX.out HO.out
  rw [HKE.out] at ht
  clear hsk hb1 hb2
  go_wp2_with fail
  refine ht.mono ?_
  rintro r w3 ⟨rfl, hb3⟩
  have hb3' : Below w.heap.size w w3 := hb2'.trans (hb3.mono hb2'.size)
  have l1 := row32_len (pathN b bs σ k)
  have l2 := row32_len (pathP bs σ k)
  obtain ⟨s1, s2, hW⟩ := rows_new w w3 w.heap.size hb3'.size hb3' (pathN b bs σ k) (pathP bs σ k) one_pathN one_pathP
  clear ht hb2' hb3 hb3' hyb hy0 hy1
  go_upto_region 5 with fail
  generalize hw4 : World.setCells _ _ 0 (row32 (pathP bs σ k)) = w4
  obtain ⟨k2, k3, hb4, hb5⟩ := hW w4 hw4
  clear hw4 hW s1 s2 l1 l2 k3 hb4
  have hpos : 0 < σ.H := by have := hX_pos HX.out hkl; omega
  have hn := k2.cell (show 0 < 32 by omega)
  unfold pathN at hn
  rw [if_pos hpos, prev0 HX.out (Nat.le_of_lt hkl)] at hn
  replace hn : w4.cell? ⟨w3.heap.size, 0, none⟩ = some (.pointer (some ⟨nd b bs k, 0, none⟩)) := hn
  obtain ⟨s, hs⟩ := next_link HX.out (Nat.le_of_lt hkl) hpos
  have hS4 := HS.out.below hb5
  have hto := hS4.to_ (nd_mem (b := b) (Nat.le_of_lt hkl)) (show 0 < 32 by omega)
  rw [hs, if_pos hkl] at hto
  replace hto : w4.cell? ⟨nd b bs k, 2, none⟩ = some (.pointer (some ⟨nd b bs (k + 1), 0, none⟩)) := hto
  have hla := run_loadAt_mid (P := Try.prog) ({ w4 with drawn := w4.drawn + 1 } : World) w3.heap.size 0 68 (row32 (pathN b bs σ k)) _ (Bk.range k2.drew) Try.underlying68 rfl (by rw [size68, row32_len])
  have htk := takes_calls b bs σ k hkl w4.drew hS4.drew HX.out
  have HF := Aside0.mk (Foot.of (F := b :: bs) hb5)
  clear k2 hs hS4 hb5
  go_still_tail 9, (by kernel_rfl)
  refine wpStill_step (fun K hK => ?_)
  rw [if_pos (by rfl)]
  refine still_load 68 (.tmp 7) rfl rfl hla ?_
  refine hK _ ?_
  clear hK K
  refine wpStill_nil ?_
  simp only [Act.put, List.setIfInBounds_toArray, List.set_cons_zero, List.set_cons_succ]
  change wpList _ _ _ _ _ w4.drew
  go_wp2_with fail
  refine htk.mono ?_
  rintro r w5 ⟨rfl, hS5, hF5⟩
  go_wp2
  go_ret
  exact ⟨rfl, hS5, HF.out.drew.trans hF5⟩
def delP (e : En) (p : Pl2) : Bool × Pl2 := if isin e p.1 = true then (true, (p.1.eraseIdx (rank e p.1), p.2.eraseIdx (rank e p.1))) else (false, p)
/-- So many taken out at one place. -/
def delN {α : Type} (A : Nat) : Nat → List α → List α
  | 0, L => L
  | n + 1, L => (delN A n L).eraseIdx A
def cutP (p : Pl2) (f t : Int) : Int × Pl2 :=
  (inT p.1.length f t - inF p.1.length f, (delN (inF p.1.length f).toNat ((inT p.1.length f t).toNat - (inF p.1.length f).toNat) p.1, delN (inF p.1.length f).toNat ((inT p.1.length f t).toNat - (inF p.1.length f).toNat) p.2))
theorem delN_len {α : Type} (A : Nat) (L : List α) : ∀ n, A + n ≤ L.length → (delN A n L).length = L.length - n
  | 0, _ => rfl
  | n + 1, h => by
    have ih := delN_len A L n (by omega)
    show ((delN A n L).eraseIdx A).length = _
    rw [List.length_eraseIdx, ih, if_pos (by omega)]
    omega
/-- The list behind a node taken out. -/
theorem Sk.taken {w' : World} {b : Nat} {F : List Nat} {σ : St} {p : Pl2} {k : Nat} (hS : Sk w' b F (σK σ b F k)) (hX : Shape b F σ) (hnb : b ∉ F) (hk : k < F.length) (hs : Srt p.1) (hE : F.map σ.E = p.1) (hl : lvs σ F = p.2) : Ls w' b (F.eraseIdx k) (p.1.eraseIdx k, p.2.eraseIdx k) :=
  ⟨_, hS.mem (fun c hc => mem_erase hc), shape_del hX hnb hk, srt_erase p.1 hs k, by rw [ents_del, hE], by rw [lvs_del, hl]⟩
theorem ls_delete {w : World} {b : Nat} {F : List Nat} {p : Pl2} (h : Ls w b F p) (e : En) : Calls Try.prog 27 #[.pointer (some ⟨b, 0, none⟩), .agg #[.string e.1, .int .i64 e.2]] w fun r w' => r = .returned (.bool (delP e p).1) ∧ After w b F (delP e p).2 w' := by
  have hl := h.len
  obtain ⟨σ, h1, h2, h3, h4, h5⟩ := h.ex
  unfold delP
  by_cases hin : isin e p.1 = true
  · rw [if_pos hin]
    have hk : rank e p.1 < F.length := by
      obtain ⟨h6, _⟩ := (mem_rank e _ h3).mp (isin_iff.mp hin)
      omega
    have := delete_yes b F σ e w h1 h2 (by rw [h4]; exact h3) (by rw [h4]; exact hin)
    rw [h4] at this
    exact this.mono fun r w' ⟨e1, e2, e3⟩ => ⟨e1, F.eraseIdx (rank e p.1), e2.taken h2 h1.ne hk h3 h4 h5, e3, fun c hc => .inl (mem_erase hc)⟩
  · rw [if_neg hin]
    have hin' : isin e p.1 = false := by simpa using hin
    have := delete_no b F σ e w h1 h2 (by rw [h4]; exact h3) (by rw [h4]; exact hin')
    exact this.mono fun _ _ ⟨e1, e2⟩ => ⟨e1, .same h e2⟩
set_option maxHeartbeats 8000000 in
set_option maxRecDepth 100000 in
theorem ls_cut {w : World} {b : Nat} {F : List Nat} {p : Pl2} (h : Ls w b F p) (hsm : p.1.length < 1000) (f t : Int) : Calls Try.prog 26 #[.pointer (some ⟨b, 0, none⟩), .int .i64 f, .int .i64 t] w fun r w' => r = .returned (.int .i64 (cutP p f t).1) ∧ After w b F (cutP p f t).2 w' := by
  have hl := h.len
  have hbl := h.lt (List.mem_cons_self (a := b) (l := F))
  obtain ⟨A, T, hF, hT, hFT, hTn⟩ := in_nat p.1.length f t
  have hw := within_of (some ⟨b, 0, none⟩) p.1.length f t w (ls_len h)
  rw [hF, hT] at hw
  unfold cutP
  rw [hF, hT]
  have hz : IntKind.i64.wrap ((T : Int) - (A : Int)) = ((T - A : Nat) : Int) := by
    rw [show (T : Int) - (A : Int) = ((T - A : Nat) : Int) by omega]
    exact IntWalk.i64_in _ (by omega)
  have hz2 : (T : Int) - (A : Int) = ((T - A : Nat) : Int) := by omega
  show Calls _ _ _ _ fun r w' => r = .returned (.int .i64 ((T : Int) - (A : Int))) ∧ After w b F (delN A (T - A) p.1, delN A (T - A) p.2) w'
  rw [hz2]
  have HZ2 := Aside0.mk hz2
  have HL := Aside0.mk h
  clear h hF hT hz2
  obtain ⟨N, hN⟩ : ∃ N, T - A = N := ⟨_, rfl⟩
  rw [hN] at hz ⊢
  have hAN : A + N ≤ p.1.length := by omega
  clear hN
  go_enter Try.func26, Try.ntmps26
  go_wp2_with fail
  refine hw.mono ?_
  rintro r w1 ⟨rfl, rfl⟩
  clear hw
  go_wp2
  go_loopg [19] N (fun gk v19 wr => ∃ (i : Nat) (F' : List Nat), v19 = .int .i64 (i : Int) ∧ i ≤ N ∧ gk = N - i ∧ Aside0 (Ls wr b F' (delN A i p.1, delN A i p.2)) ∧ Aside0 (Foot (b :: F) w1 wr) ∧ Aside0 (∀ c, c ∈ F' → c ∈ F))
  case atStart => exact ⟨0, F, rfl, Nat.zero_le _, rfl, HL, ⟨Foot.refl _ _⟩, ⟨fun _ hc => hc⟩⟩
  case round =>
    obtain ⟨i, F', rfl, hi, hgk, HLr, HFt, HSub⟩ := hrel
    by_cases hiN : i < N
    · have hiz : (i : Int) < (N : Int) := by omega
      have hlen' := HLr.out.len
      have hdl := delN_len A p.1 i (by omega)
      replace hlen' : F'.length = (delN A i p.1).length := hlen'.1
      obtain ⟨σ, h1, h2, h3, h4, h5⟩ := HLr.out.ex
      have hk : A < F'.length := by omega
      have hbr := h1.head.lt
      have ht := until_calls b F' σ A (by omega) wr h1 h2
      have HX := Aside0.mk h2
      have HS := Aside0.mk h1
      have H345 := Aside0.mk (And.intro h3 (And.intro h4 h5))
      clear h1 h2 h3 h4 h5 hdl hlen'
      go_wp2_with fail
      refine ht.mono ?_
      rintro r w3 ⟨rfl, hb3⟩
      have l1 := row32_len (pathN b F' σ A)
      have l2 := row32_len (pathP F' σ A)
      obtain ⟨s1, s2, hW⟩ := rows_new wr w3 wr.heap.size hb3.size hb3 (pathN b F' σ A) (pathP F' σ A) one_pathN one_pathP
      clear ht hb3
      go_upto_region 5 with fail
      generalize hw4 : World.setCells _ _ 0 (row32 (pathP F' σ A)) = w4
      obtain ⟨k2, k3, hb4, hb5⟩ := hW w4 hw4
      clear hw4 hW s1 s2 l1 l2 k3 hb4
      have hpos : 0 < σ.H := by have := hX_pos HX.out hk; omega
      have hn := k2.cell (show 0 < 32 by omega)
      unfold pathN at hn
      rw [if_pos hpos, prev0 HX.out (Nat.le_of_lt hk)] at hn
      replace hn : w4.cell? ⟨w3.heap.size, 0, none⟩ = some (.pointer (some ⟨nd b F' A, 0, none⟩)) := hn
      obtain ⟨s, hs⟩ := next_link HX.out (Nat.le_of_lt hk) hpos
      have hS4 := HS.out.below hb5
      have hto := hS4.to_ (nd_mem (b := b) (Nat.le_of_lt hk)) (show 0 < 32 by omega)
      rw [hs, if_pos hk] at hto
      replace hto : w4.cell? ⟨nd b F' A, 2, none⟩ = some (.pointer (some ⟨nd b F' (A + 1), 0, none⟩)) := hto
      have hla := run_loadAt_mid (P := Try.prog) ({ w4 with drawn := w4.drawn + 1 } : World) w3.heap.size 0 68 (row32 (pathN b F' σ A)) _ (Bk.range k2.drew) Try.underlying68 rfl (by rw [size68, row32_len])
      have htk := takes_calls b F' σ A hk w4.drew hS4.drew HX.out
      have HB5 := Aside0.mk hb5
      clear k2 hs hS4 hb5
      go_still_tail 9, (by kernel_rfl)
      refine wpStill_step (fun K hK => ?_)
      rw [if_pos (by rfl)]
      refine still_load 68 (.tmp 7) rfl rfl hla ?_
      refine hK _ ?_
      clear hK K
      refine wpStill_nil ?_
      simp only [Act.put, List.setIfInBounds_toArray, List.set_cons_zero, List.set_cons_succ]
      change wpList _ _ _ _ _ w4.drew
      go_wp2_with fail
      refine htk.mono ?_
      rintro r w5 ⟨rfl, hS5, hF5⟩
      have hL5 := hS5.taken (p := (delN A i p.1, delN A i p.2)) HX.out HS.out.ne hk H345.out.1 H345.out.2.1 H345.out.2.2
      have hF6 : Foot (b :: F) w1 w5 := (HFt.out.below (HB5.out.mono HFt.out.size)).drew.trans' hF5 (fun c _ hc => by
        rcases List.mem_cons.mp hc with rfl | hc
        · exact List.mem_cons_self
        · exact List.mem_cons_of_mem _ (HSub.out c hc))
      have HL5 := Aside0.mk hL5
      have HF6 := Aside0.mk hF6
      clear htk hS5 hF5 hL5 hF6 hla hn hto
      go_wp2
      go_roundg (N - (i + 1))
      case measure => omega
      case rel => exact ⟨i + 1, F'.eraseIdx A, congrArg (Value.int .i64) (by first | exact wrap_succ i (by omega) | omega), by omega, rfl, HL5, HF6, ⟨fun c hc => HSub.out c (mem_erase hc)⟩⟩
    · have hiz : ¬ (i : Int) < (N : Int) := by omega
      obtain rfl : i = N := by omega
      clear hgk hi
      go_wp2
      go_ret
      exact ⟨rfl, F', HLr.out, HFt.out, fun c hc => .inl (HSub.out c hc)⟩
end Go.Proofs.Ytnlbdmiflihghaa.P
