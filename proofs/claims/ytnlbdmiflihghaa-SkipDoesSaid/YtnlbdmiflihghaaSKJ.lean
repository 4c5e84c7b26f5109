/- An entry is put into the list. Conditions: each theorem names its own. -/
import Derived.Test.YtnlbdmiflihghaaSKF
namespace Go.Proofs.Ytnlbdmiflihghaa.P
open Go.RowKit Go.Shelf Go.Proofs.YtnlbdmiflihghaaW.PrintWords Go.Proofs.YtnlbdmiflihghaaW.PrintLast Go.Proofs.YtnlbdmiflihghaaW.PrintMore Go.Proofs.Ytnlbdmiflihghaa.SK
attribute [local go_sem] Oper.semAt_some

set_option maxHeartbeats 2000000 in
set_option maxRecDepth 100000 in
theorem insert_nil (e : En) (l : Int) (w : World) : Calls Try.prog 29 #[.pointer none, .agg #[.string e.1, .int .i64 e.2], .int .i64 l] w fun r w' => r = .returned (.int .i64 1) ∧ Below w.heap.size w w' := by
  go_enter Try.func29, Try.ntmps29
  go_wp2
  go_ret
  exact ⟨rfl, below_alloc (Below.refl _ _) _⟩
set_option maxHeartbeats 2000000 in
set_option maxRecDepth 100000 in
theorem insert_arg (b : Nat) (e : En) (l : Int) (w : World) (hl : l < 1 ∨ 32 < l) : Calls Try.prog 29 #[.pointer (some ⟨b, 0, none⟩), .agg #[.string e.1, .int .i64 e.2], .int .i64 l] w fun r w' => r = .returned (.int .i64 2) ∧ Below w.heap.size w w' := by
  go_enter Try.func29, Try.ntmps29
  by_cases h1 : l < 1
  · go_wp2
    go_ret
    exact ⟨rfl, below_alloc (Below.refl _ _) _⟩
  · have h2 : 32 < l := by omega
    go_wp2
    go_ret
    exact ⟨rfl, below_alloc (Below.refl _ _) _⟩
set_option maxHeartbeats 2000000 in
set_option maxRecDepth 100000 in
theorem insert_has (b : Nat) (bs : List Nat) (σ : St) (e : En) (h : Nat) (h1 : 1 ≤ h) (h32 : h ≤ 32) (w : World) (hS : Sk w b bs σ) (hX : Shape b bs σ) (hs : Srt (bs.map σ.E)) (hin : isin e (bs.map σ.E) = true) :
    Calls Try.prog 29 #[.pointer (some ⟨b, 0, none⟩), .agg #[.string e.1, .int .i64 e.2], .int .i64 (h : Int)] w fun r w' => r = .returned (.int .i64 90) ∧ Below w.heap.size w w' := by
  have hb1 : Below w.heap.size w (w.alloc (.cells #[.string e.1, .int .i64 e.2] 28)) := below_alloc (Below.refl _ _) _
  have hsk := seek_calls b bs σ e _ (hS.below hb1) hX hs
  rw [hin] at hsk
  have HB := Aside0.mk hb1
  clear hS hX hs hin hb1
  go_enter Try.func29, Try.ntmps29
  go_wp2_with fail
  refine hsk.mono ?_
  rintro r w2 ⟨rfl, hb2⟩
  go_wp2
  go_ret
  exact ⟨rfl, HB.out.trans (hb2.mono HB.out.size)⟩
/-- The rows of a path, level by level up to i. -/
def rowN (b : Nat) (bs : List Nat) (σ : St) (k i j : Nat) : Value := ptr (if j < max σ.H i then some (nd b bs (prevP (lvs σ bs) j k)) else none)
def rowP (bs : List Nat) (σ : St) (k i j : Nat) : Value := .int .i64 ((if j < max σ.H i then prevP (lvs σ bs) j k else 0 : Nat) : Int)
theorem prev_high {b : Nat} {bs : List Nat} {σ : St} (hX : Shape b bs σ) {j k : Nat} (hk : k ≤ bs.length) (hj : σ.H ≤ j) : prevP (lvs σ bs) j k = 0 := by
  have hs := prevP_spec (lvs σ bs) j k
  rcases hs.on with h0 | hv
  · exact h0
  · have h1 := V_lvl.mp hv
    have h2 := hs.le
    rw [lvl_nd (b := b) h1.1 (by omega)] at h1
    have := (hX.lv1 _ (nd_mem' (b := b) h1.1 (by omega))).2
    omega
theorem rowN_low {b : Nat} {bs : List Nat} {σ : St} {k i : Nat} (h : i ≤ σ.H) : rowN b bs σ k i = pathN b bs σ k := by
  funext j
  unfold rowN pathN
  rw [Nat.max_eq_left h]
theorem rowP_low {bs : List Nat} {σ : St} {k i : Nat} (h : i ≤ σ.H) : rowP bs σ k i = pathP bs σ k := by
  funext j
  unfold rowP pathP
  rw [Nat.max_eq_left h]
theorem rowN_step {b : Nat} {bs : List Nat} {σ : St} (hX : Shape b bs σ) {k i : Nat} (hk : k ≤ bs.length) (hi : σ.H ≤ i) (j : Nat) : (if j = i then Value.pointer (some ⟨b, 0, none⟩) else rowN b bs σ k i j) = rowN b bs σ k (i + 1) j := by
  unfold rowN
  by_cases h : j = i
  · rw [if_pos h, if_pos (by omega), h, prev_high hX hk hi]
    rfl
  · rw [if_neg h]
    by_cases h2 : j < max σ.H i
    · rw [if_pos h2, if_pos (by omega)]
    · rw [if_neg h2, if_neg (by omega)]
theorem rowP_step {b : Nat} {bs : List Nat} {σ : St} (hX : Shape b bs σ) {k i : Nat} (hk : k ≤ bs.length) (hi : σ.H ≤ i) (j : Nat) : (if j = i then Value.int .i64 0 else rowP bs σ k i j) = rowP bs σ k (i + 1) j := by
  unfold rowP
  by_cases h : j = i
  · rw [if_pos h, if_pos (by omega), h, prev_high hX hk hi]
    rfl
  · rw [if_neg h]
    by_cases h2 : j < max σ.H i
    · rw [if_pos h2, if_pos (by omega)]
    · rw [if_neg h2, if_neg (by omega)]
theorem T2_step {σ : St} {b i : Nat} (hi : σ.H ≤ i) : upd (T2 σ b i) b i (none, (σ.n : Int)) = T2 σ b (i + 1) := by
  funext c j
  unfold upd T2
  by_cases h1 : c = b ∧ j = i
  · rw [if_pos h1, if_pos (by omega)]
  · rw [if_neg h1]
    by_cases h2 : c = b ∧ σ.H ≤ j ∧ j < i
    · rw [if_pos h2, if_pos (by omega)]
    · rw [if_neg h2, if_neg (by omega)]
theorem ptr_eq2 (o : Option Nat) : ptr o = .pointer (o.map fun c => ⟨c, 0, none⟩) := by cases o <;> rfl
/-- An entry's two cells. -/
def entC (e : En) (j : Nat) : Value := if j = 0 then .string e.1 else .int .i64 e.2
theorem ent_new (w : World) (e : En) : Bk (w.alloc (.cells #[.string e.1, .int .i64 e.2] 28)) w.heap.size 28 2 (entC e) := by
  refine Bk.of _ (World.alloc_heap_new w _) rfl (fun j hj => ?_)
  have : j = 0 ∨ j = 1 := by
    have : j < 2 := hj
    omega
  rcases this with rfl | rfl <;> rfl
theorem ent_0 {W : World} {B : Nat} {e : En} (h : Bk W B 28 2 (entC e)) : W.cell? ⟨B, 0, none⟩ = some (.string e.1) := h.cell (show 0 < 2 by omega)
theorem ent_1 {W : World} {B : Nat} {e : En} (h : Bk W B 28 2 (entC e)) : W.cell? ⟨B, 1, none⟩ = some (.int .i64 e.2) := h.cell (show 1 < 2 by omega)
/-- While the head's links of levels that it had not are laid. -/
structure InsA (w w3 : World) (b : Nat) (bs : List Nat) (σ : St) (e : En) (k i : Nat) (W : World) : Prop where
  sk : Sk W b bs { σ with tow := T2 σ b i }
  ns : Bk W w3.heap.size 68 32 (rowN b bs σ k i)
  ps : Bk W (w3.heap.size + 1) 69 32 (rowP bs σ k i)
  yb : Bk W w.heap.size 28 2 (entC e)
  ft : Foot (b :: bs) w W
theorem InsA.step {w w3 W : World} {b : Nat} {bs : List Nat} {σ : St} {e : En} {k i : Nat} (h : InsA w w3 b bs σ e k i W) (hX : Shape b bs σ) (hk : k ≤ bs.length) (hF : ∀ c, c ∈ b :: bs → c < w.heap.size) (h3 : w.heap.size < w3.heap.size) (hi1 : σ.H ≤ i) (hi : i < 32) (W' : World)
    (hW : ((((W.setCell ⟨w3.heap.size, i, none⟩ (.pointer (some ⟨b, 0, none⟩))).setCell ⟨w3.heap.size + 1, i, none⟩ (.int .i64 0)).setCell ⟨b, 2 + i * 2, none⟩ (.pointer none)).setCell ⟨b, 2 + i * 2 + 1, none⟩ (.int .i64 (σ.n : Int))).drew = W') : InsA w w3 b bs σ e k (i + 1) W' := by
  subst hW
  have hb := hF b List.mem_cons_self
  have n1 : w3.heap.size ∉ b :: bs := fun hc => by have := hF _ hc; omega
  have n2 : w3.heap.size + 1 ∉ b :: bs := fun hc => by have := hF _ hc; omega
  refine ⟨?_, ?_, ?_, ?_, ?_⟩
  · have := (((h.sk.far n1 i (.pointer (some ⟨b, 0, none⟩))).far n2 i (.int .i64 0)).setLink List.mem_cons_self hi none (σ.n : Int)).drew
    rw [← T2_step hi1]
    exact this
  · refine Bk.drew (Bk.ext ((((h.ns.set i _).far (by omega) _ _).far (by omega) _ _).far (by omega) _ _) (fun j _ => rowN_step hX hk hi1 j))
  · refine Bk.drew (Bk.ext ((((h.ps.far (by omega) _ _).set i _).far (by omega) _ _).far (by omega) _ _) (fun j _ => rowP_step hX hk hi1 j))
  · exact Bk.drew ((((h.yb.far (by omega) _ _).far (by omega) _ _).far (by omega) _ _).far (by omega) _ _)
  · exact ((((h.ft.setCell _ (.inr (by omega))).setCell _ (.inr (by omega))).setCell _ (.inl List.mem_cons_self)).setCell _ (.inl List.mem_cons_self)).drew
theorem InsA.norm {w w3 W : World} {b : Nat} {bs : List Nat} {σ : St} {e : En} {k i h : Nat} (hA : InsA w w3 b bs σ e k i W) (hi : i = h ∨ (i = σ.H ∧ h ≤ σ.H)) : InsA w w3 b bs σ e k h W := by
  rcases hi with rfl | ⟨rfl, hh⟩
  · exact hA
  · obtain ⟨h1, h2, h3, h4, h6⟩ := hA
    rw [T2_low σ b σ.H (Nat.le_refl _)] at h1
    rw [rowN_low (Nat.le_refl _)] at h2
    rw [rowP_low (Nat.le_refl _)] at h3
    exact ⟨by rw [T2_low σ b h hh]; exact h1, by rw [rowN_low hh]; exact h2, by rw [rowP_low hh]; exact h3, h4, h6⟩
/-- The head's greatest level is laid. -/
structure InsB (w w3 : World) (b : Nat) (bs : List Nat) (σ : St) (e : En) (k h : Nat) (W : World) : Prop where
  sk : Sk W b bs { σ with tow := T2 σ b h, H := max σ.H h }
  ns : Bk W w3.heap.size 68 32 (rowN b bs σ k h)
  ps : Bk W (w3.heap.size + 1) 69 32 (rowP bs σ k h)
  yb : Bk W w.heap.size 28 2 (entC e)
  ft : Foot (b :: bs) w W
/-- The new node is laid, m levels are linked. -/
structure InsC (w w3 : World) (b : Nat) (bs : List Nat) (σ : St) (e : En) (k h x m : Nat) (W : World) : Prop where
  sk : Sk W b (x :: bs) (σI σ b bs k x e h m)
  ns : Bk W w3.heap.size 68 32 (rowN b bs σ k h)
  ps : Bk W (w3.heap.size + 1) 69 32 (rowP bs σ k h)
  ft : Foot (b :: bs) w W
theorem InsB.start {w w3 W : World} {b : Nat} {bs : List Nat} {σ : St} {e : En} {k h : Nat} (hB : InsB w w3 b bs σ e k h W) (W' : World) (Z : List Value) (hZ : (List.range 68).map (nodeC e (fun _ => (none, 0)) h none) = Z) (hW : W.alloc (.cells Z.toArray 62) = W') : InsC w w3 b bs σ e k h W.heap.size 0 W' := by
  subst hW
  have hxb : W.heap.size ≠ b := fun he => by have := hB.sk.head.lt; omega
  have hxs : ∀ c, c ∈ bs → c ≠ W.heap.size := fun c hc he => by have := (hB.sk.node c hc).lt; omega
  refine ⟨?_, hB.ns.alloc _, hB.ps.alloc _, hB.ft.alloc _⟩
  have h1 : Sk (W.alloc (.cells Z.toArray 62)) b bs (σI σ b bs k W.heap.size e h 0) := by
    refine (hB.sk.alloc _).ext (fun c hc => ?_) (fun c hc => ?_) (fun c hc j _ => ?_) (fun c hc => ?_) rfl rfl rfl
    · exact (if_neg (hxs c hc)).symm
    · exact (if_neg (hxs c hc)).symm
    · show T2 σ b h c j = (if j < 0 then Tn σ b bs k W.heap.size h c j else if c = W.heap.size then (none, 0) else T2 σ b h c j)
      rw [if_neg (by omega), if_neg]
      rcases List.mem_cons.mp hc with rfl | hc
      · exact fun he => hxb he.symm
      · exact hxs c hc
    · exact (if_neg (hxs c hc)).symm
  refine h1.add ?_ hxb
  have h2 := bk_range (World.alloc_heap_new W (.cells Z.toArray 62)) hZ
  refine h2.ext (fun j _ => ?_)
  simp [σI]
section
variable {w w3 W W' : World} {b : Nat} {bs : List Nat} {σ : St} {e : En} {k h x m : Nat}
theorem tow_step_other {c j : Nat} (hj : j ≠ m) : (σI σ b bs k x e h m).tow c j = (σI σ b bs k x e h (m + 1)).tow c j := by
  show (if j < m then _ else _) = (if j < m + 1 then _ else _)
  by_cases h1 : j < m
  · rw [if_pos h1, if_pos (show j < m + 1 by omega)]
  · rw [if_neg h1, if_neg (show ¬ j < m + 1 by omega)]
theorem tow_at (m : Nat) (c : Nat) : (σI σ b bs k x e h m).tow c m = if c = x then (none, 0) else T2 σ b h c m := by
  show (if m < m then _ else _) = _
  rw [if_neg (Nat.lt_irrefl _)]
theorem tow_next (m : Nat) (c : Nat) : (σI σ b bs k x e h (m + 1)).tow c m = Tn σ b bs k x h c m := by
  show (if m < m + 1 then _ else _) = _
  rw [if_pos (Nat.lt_succ_self _)]
theorem InsC.high (hC : InsC w w3 b bs σ e k h x m W) (hk : k ≤ bs.length) (hF : ∀ c, c ∈ b :: bs → c < w.heap.size) (h3 : w.heap.size < w3.heap.size) (hx : w.heap.size ≤ x) (hm : m < max σ.H h) (hm32 : m < 32) (hmh : h ≤ m)
    (hW : W.setCell ⟨nd b bs (prevP (lvs σ bs) m k), 2 + m * 2 + 1, none⟩ (.int .i64 ((T2 σ b h (nd b bs (prevP (lvs σ bs) m k)) m).2 + 1)) = W') : InsC w w3 b bs σ e k h x (m + 1) W' := by
  subst hW
  have hP : prevP (lvs σ bs) m k ≤ bs.length := Nat.le_trans (prevP_spec (lvs σ bs) m k).le hk
  have hPm := nd_mem (b := b) hP
  have hPl := hF _ hPm
  have hne : ∀ p, p ≤ bs.length → nd b bs p ≠ x := fun p hp he => by have := hF _ (nd_mem (b := b) hp); omega
  have hPx := hne _ hP
  have hm2 : nd b bs (prevP (lvs σ bs) m k) ∈ b :: x :: bs := by
    rcases List.mem_cons.mp hPm with h1 | h1
    · rw [h1]; exact List.mem_cons_self
    · exact List.mem_cons_of_mem _ (List.mem_cons_of_mem _ h1)
  refine ⟨?_, hC.ns.far (by omega) _ _, hC.ps.far (by omega) _ _, hC.ft.setCell _ (.inl hPm)⟩
  refine (hC.sk.setSpan hm2 hm32 _).ext (fun _ _ => rfl) (fun _ _ => rfl) (fun c hc j hj => ?_) (fun _ _ => rfl) rfl rfl rfl
  show upd _ _ _ _ c j = _
  by_cases hjm : j = m
  · subst hjm
    rw [tow_next]
    by_cases hcP : c = nd b bs (prevP (lvs σ bs) j k)
    · rw [hcP, upd_same, tow_at, if_neg hPx]
      unfold Tn
      rw [if_pos rfl, if_neg (by omega)]
    · rw [upd_ne _ _ (fun hh => hcP hh.1), tow_at]
      unfold Tn
      rw [if_neg hcP]
      by_cases hcx : c = x
      · rw [if_pos hcx, if_pos hcx, if_neg (by omega)]
      · rw [if_neg hcx, if_neg hcx]
  · rw [upd_ne _ _ (fun hh => hjm hh.2)]
    exact tow_step_other hjm
theorem InsC.low (hC : InsC w w3 b bs σ e k h x m W) (hk : k ≤ bs.length) (hF : ∀ c, c ∈ b :: bs → c < w.heap.size) (h3 : w.heap.size < w3.heap.size) (hx : w3.heap.size + 1 < x) (hm : m < max σ.H h) (hm32 : m < 32) (hmh : m < h) (W1 : World)
    (hW1 : ((W.setCell ⟨x, 2 + m * 2, none⟩ (ptr (T2 σ b h (nd b bs (prevP (lvs σ bs) m k)) m).1)).setCell ⟨x, 2 + m * 2 + 1, none⟩ (.int .i64 ((T2 σ b h (nd b bs (prevP (lvs σ bs) m k)) m).2 - ((k : Int) - prevP (lvs σ bs) m k)))).drew = W1)
    (hW : (W1.setCell ⟨nd b bs (prevP (lvs σ bs) m k), 2 + m * 2, none⟩ (.pointer (some ⟨x, 0, none⟩))).setCell ⟨nd b bs (prevP (lvs σ bs) m k), 2 + m * 2 + 1, none⟩ (.int .i64 ((k : Int) - prevP (lvs σ bs) m k + 1)) = W') : InsC w w3 b bs σ e k h x (m + 1) W' := by
  subst hW1
  subst hW
  have hP : prevP (lvs σ bs) m k ≤ bs.length := Nat.le_trans (prevP_spec (lvs σ bs) m k).le hk
  have hPm := nd_mem (b := b) hP
  have hPl := hF _ hPm
  have hne : ∀ p, p ≤ bs.length → nd b bs p ≠ x := fun p hp he => by have := hF _ (nd_mem (b := b) hp); omega
  have hPx := hne _ hP
  have hm2 : nd b bs (prevP (lvs σ bs) m k) ∈ b :: x :: bs := by
    rcases List.mem_cons.mp hPm with h1 | h1
    · rw [h1]; exact List.mem_cons_self
    · exact List.mem_cons_of_mem _ (List.mem_cons_of_mem _ h1)
  refine ⟨?_, ((((hC.ns.far (by omega) _ _).far (by omega) _ _).drew).far (by omega) _ _).far (by omega) _ _, ((((hC.ps.far (by omega) _ _).far (by omega) _ _).drew).far (by omega) _ _).far (by omega) _ _, ((((hC.ft.setCell _ (.inr (by omega))).setCell _ (.inr (by omega))).drew).setCell _ (.inl hPm)).setCell _ (.inl hPm)⟩
  have hs := (hC.sk.setLink (c := x) (List.mem_cons_of_mem _ List.mem_cons_self) hm32 (T2 σ b h (nd b bs (prevP (lvs σ bs) m k)) m).1 ((T2 σ b h (nd b bs (prevP (lvs σ bs) m k)) m).2 - ((k : Int) - prevP (lvs σ bs) m k))).drew.setLink hm2 hm32 (some x) ((k : Int) - prevP (lvs σ bs) m k + 1)
  refine hs.ext (fun _ _ => rfl) (fun _ _ => rfl) (fun c hc j hj => ?_) (fun _ _ => rfl) rfl rfl rfl
  show upd (upd _ _ _ _) _ _ _ c j = _
  by_cases hjm : j = m
  · subst hjm
    rw [tow_next]
    by_cases hcP : c = nd b bs (prevP (lvs σ bs) j k)
    · rw [hcP, upd_same]
      unfold Tn
      rw [if_pos rfl, if_pos hmh]
    · rw [upd_ne _ _ (fun hh => hcP hh.1)]
      unfold Tn
      rw [if_neg hcP]
      by_cases hcx : c = x
      · rw [hcx, upd_same, if_pos rfl, if_pos hmh]
      · rw [upd_ne _ _ (fun hh => hcx hh.1), tow_at, if_neg hcx, if_neg hcx]
  · rw [upd_ne _ _ (fun hh => hjm hh.2), upd_ne _ _ (fun hh => hjm hh.2)]
    exact tow_step_other hjm
end
theorem link2_small {σ : St} {b : Nat} {bs : List Nat} {h k m : Nat} (hX : Shape b bs σ) (hnb : b ∉ bs) (hk : k ≤ bs.length) (hm : m < max σ.H h) : -1000 ≤ (T2 σ b h (nd b bs (prevP (lvs σ bs) m k)) m).2 ∧ (T2 σ b h (nd b bs (prevP (lvs σ bs) m k)) m).2 ≤ 1000 := by
  have hsp := prevP_spec (lvs σ bs) m k
  have hP : prevP (lvs σ bs) m k ≤ bs.length := Nat.le_trans hsp.le hk
  have hPi : m < (if prevP (lvs σ bs) m k = 0 then max σ.H h else lvl σ bs (prevP (lvs σ bs) m k)) := by
    rcases hsp.on with h0 | hv
    · rw [if_pos h0]; exact hm
    · rw [if_neg (by have := hv.1; omega)]; exact (V_lvl.mp hv).2
  obtain ⟨o, s, hn, ht⟩ := link2 (h := h) hX hnb hP hPi
  have hsm := hX.small
  rw [ht]
  show -1000 ≤ s ∧ s ≤ 1000
  cases o with
  | none =>
    have := hn.2
    rw [lvs_len] at this
    omega
  | some q =>
    obtain ⟨h1, h2, h3, h4⟩ := hn
    have := V_le h2
    rw [lvs_len] at this
    omega
/-- The list behind the links, the new one's link back laid. -/
def σD (σ : St) (b : Nat) (bs : List Nat) (k x : Nat) (e : En) (h : Nat) : St :=
  { σI σ b bs k x e h (max σ.H h) with bk := fun c => if c = x then (if k = 0 then none else some (nd b bs k)) else σ.bk c }
section
variable {w w3 W W' : World} {b : Nat} {bs : List Nat} {σ : St} {e : En} {k h x m : Nat}
theorem bk_zero (hk0 : k = 0) (c : Nat) : (σI σ b bs k x e h m).bk c = (σD σ b bs k x e h).bk c := by
  show (if c = x then none else σ.bk c) = (if c = x then (if k = 0 then none else some (nd b bs k)) else σ.bk c)
  rw [if_pos hk0]
theorem bk_pos (hC : InsC w w3 b bs σ e k h x m W) (hk0 : ¬ k = 0) (hm : max σ.H h = m) (nq : Nat) (hxw : w.heap.size ≤ x) (hW : (W.drewN nq).setCell ⟨x, 67, none⟩ (.pointer (some ⟨nd b bs k, 0, none⟩)) = W') : Sk W' b (x :: bs) (σD σ b bs k x e h) ∧ Foot (b :: bs) w W' := by
  subst hW
  have hs : Sk (W.drewN nq) b (x :: bs) (σI σ b bs k x e h m) := hC.sk.move (fun _ _ => rfl)
  refine ⟨(hs.setBk (c := x) List.mem_cons_self (some (nd b bs k))).ext (fun _ _ => rfl) (fun _ _ => rfl) (fun c _ j _ => ?_) (fun c _ => ?_) rfl rfl rfl, (hC.ft.below (pw_below_drewN (Below.refl _ _) nq)).setCell _ (.inr hxw)⟩
  · unfold σD; rw [hm]
  · show (if c = x then some (nd b bs k) else if c = x then none else σ.bk c) = (if c = x then (if k = 0 then none else some (nd b bs k)) else σ.bk c)
    by_cases h1 : c = x
    · rw [if_pos h1, if_pos h1, if_neg hk0]
    · rw [if_neg h1, if_neg h1, if_neg h1]
theorem tow_zero (h1 : 1 ≤ h) : (σD σ b bs k x e h).tow x 0 = Tn σ b bs k x h x 0 := by
  show (if 0 < max σ.H h then _ else _) = _
  rw [if_pos (by omega)]
/-- The new one's link on the first level. -/
theorem next0 (hX : Shape b bs σ) (hnb : b ∉ bs) (hk : k ≤ bs.length) (hne : ∀ p, p ≤ bs.length → nd b bs p ≠ x) (h1 : 1 ≤ h) : (Tn σ b bs k x h x 0).1 = if k < bs.length then some (nd b bs (k + 1)) else none := by
  unfold Tn
  rw [prev0 hX hk, if_neg (fun he => hne k hk he.symm), if_pos rfl, if_pos (by omega)]
  by_cases hH : 0 < σ.H
  · obtain ⟨s, hs⟩ := next_link hX hk hH
    unfold T2
    rw [if_neg (by omega), hs]
  · have hb : bs = [] := (H_pos hX).mp (by omega)
    subst hb
    have hk0 : k = 0 := by simpa using hk
    subst hk0
    unfold T2
    rw [if_pos ⟨rfl, by omega, by omega⟩]
    rfl
theorem fin_next (hD : Sk W b (x :: bs) (σD σ b bs k x e h)) (hF : Foot (b :: bs) w W) (hkl : k < bs.length) (hxb : x ∉ bs) (hW : (W.setCell ⟨nd b bs (k + 1), 67, none⟩ (.pointer (some ⟨x, 0, none⟩))).setCell ⟨b, 70, none⟩ (.int .i64 ((σ.n : Int) + 1)) = W') : Sk W' b (x :: bs) (σJ σ b bs k x e h) ∧ Foot (b :: bs) w W' := by
  subst hW
  have hm := nd_mem' (b := b) (show 1 ≤ k + 1 by omega) (show k + 1 ≤ bs.length by omega)
  refine ⟨((hD.setBk (c := nd b bs (k + 1)) (List.mem_cons_of_mem _ hm) (some x)).setN (σ.n + 1)).ext (fun _ _ => rfl) (fun _ _ => rfl) (fun _ _ _ _ => rfl) (fun c hc => ?_) ?_ rfl rfl, (hF.setCell _ (.inl (List.mem_cons_of_mem _ hm))).setCell _ (.inl List.mem_cons_self)⟩
  · show (if c = nd b bs (k + 1) then some x else if c = x then (if k = 0 then none else some (nd b bs k)) else σ.bk c) = (if c = x then (if k = 0 then none else some (nd b bs k)) else if k < bs.length ∧ c = nd b bs (k + 1) then some x else σ.bk c)
    by_cases h1 : c = nd b bs (k + 1)
    · rw [if_pos h1, if_neg (fun he => hxb (by rw [← he, h1]; exact hm)), if_pos ⟨hkl, h1⟩]
    · rw [if_neg h1]
      by_cases h2 : c = x
      · rw [if_pos h2, if_pos h2]
      · rw [if_neg h2, if_neg h2, if_neg (fun hh => h1 hh.2)]
  · show σ.last = if k < bs.length then σ.last else some x
    rw [if_pos hkl]
theorem fin_last (hD : Sk W b (x :: bs) (σD σ b bs k x e h)) (hF : Foot (b :: bs) w W) (hkl : ¬ k < bs.length) (hW : (W.setCell ⟨b, 68, none⟩ (.pointer (some ⟨x, 0, none⟩))).setCell ⟨b, 70, none⟩ (.int .i64 ((σ.n : Int) + 1)) = W') : Sk W' b (x :: bs) (σJ σ b bs k x e h) ∧ Foot (b :: bs) w W' := by
  subst hW
  refine ⟨((hD.setLast (some x)).setN (σ.n + 1)).ext (fun _ _ => rfl) (fun _ _ => rfl) (fun _ _ _ _ => rfl) (fun c hc => ?_) ?_ rfl rfl, (hF.setCell _ (.inl List.mem_cons_self)).setCell _ (.inl List.mem_cons_self)⟩
  · show (if c = x then (if k = 0 then none else some (nd b bs k)) else σ.bk c) = (if c = x then (if k = 0 then none else some (nd b bs k)) else if k < bs.length ∧ c = nd b bs (k + 1) then some x else σ.bk c)
    by_cases h2 : c = x
    · rw [if_pos h2, if_pos h2]
    · rw [if_neg h2, if_neg h2, if_neg (fun hh => hkl hh.1)]
  · show some x = if k < bs.length then σ.last else some x
    rw [if_neg hkl]
end
set_option maxHeartbeats 8000000 in
set_option maxRecDepth 100000 in
theorem insert_new (b : Nat) (bs : List Nat) (σ : St) (e : En) (h : Nat) (h1 : 1 ≤ h) (h32 : h ≤ 32) (w : World) (hS : Sk w b bs σ) (hX : Shape b bs σ) (hs : Srt (bs.map σ.E)) (hin : isin e (bs.map σ.E) = false) (hsm : bs.length < 1000) :
    Calls Try.prog 29 #[.pointer (some ⟨b, 0, none⟩), .agg #[.string e.1, .int .i64 e.2], .int .i64 (h : Int)] w fun r w' => r = .returned (.int .i64 0) ∧ ∃ x, w.heap.size ≤ x ∧ Sk w' b (x :: bs) (σJ σ b bs (rank e (bs.map σ.E)) x e h) ∧ Foot (b :: bs) w w' := by
  have hk : rank e (bs.map σ.E) ≤ bs.length := by have := rank_le e (bs.map σ.E); rwa [List.length_map] at this
  have hbl := hS.head.lt
  have hH32 := hX.H32
  have hb1 : Below w.heap.size w (w.alloc (.cells #[.string e.1, .int .i64 e.2] 28)) := below_alloc (Below.refl _ _) _
  have hsk := seek_calls b bs σ e _ (hS.below hb1) hX hs
  have hyb := ent_new w e
  rw [hin] at hsk
  have HS := Aside0.mk hS
  have HX := Aside0.mk hX
  have HO := Aside0.mk hs
  generalize hke : rank e (bs.map σ.E) = k at hk hsk
  have HKE := Aside0.mk hke
  clear hS hX hs hin hke
  go_enter Try.func29, Try.ntmps29
  go_wp2_with fail
  generalize World.alloc w _ = w1 at hb1 hyb hsk ⊢
  refine hsk.mono ?_
  rintro r w2 ⟨rfl, hb2⟩
  have hb2' : Below w.heap.size w w2 := hb1.trans (hb2.mono hb1.size)
  replace hyb := hyb.below hb2
  have hy0 := ent_0 hyb
  have hy1 := ent_1 hyb
  have ht := to_calls b bs σ e w2 (HS.out.below hb2') HX.out HO.out
  rw [HKE.out] at ht
  clear hsk hb1 hb2
  go_wp2_with fail
  refine ht.mono ?_
  rintro r w3 ⟨rfl, hb3⟩
  have hb3' : Below w.heap.size w w3 := hb2'.trans (hb3.mono hb2'.size)
  replace hyb := hyb.below hb3
  have hlt3 : w.heap.size < w3.heap.size := hyb.lt
  clear hy0 hy1
  have l1 := row32_len (pathN b bs σ k)
  have l2 := row32_len (pathP bs σ k)
  obtain ⟨s1, s2, hW⟩ := rows_new w w3 w.heap.size hb3'.size hb3' (pathN b bs σ k) (pathP bs σ k) one_pathN one_pathP
  clear ht hb2' hb3 hb3'
  go_upto_region 9 with fail
  generalize hw4 : World.setCells _ _ 0 (row32 (pathP bs σ k)) = w4
  obtain ⟨k2, k3, hb4, hb5⟩ := hW w4 hw4
  replace hyb := hyb.below hb4
  have hS4 := HS.out.below hb5
  have hH4 := hS4.H_
  have HK2 := Aside0.mk k2
  have HK3 := Aside0.mk k3
  have HB5 := Aside0.mk hb5
  have HS4 := Aside0.mk hS4
  have HYB := Aside0.mk hyb
  clear hw4 hW s1 s2 l1 l2 k2 k3 hb4 hb5 hS4 hyb
  go_wp2
  go_loopg [11] (h - σ.H) (fun gk v11 wr => ∃ i : Nat, v11 = .int .i64 (i : Int) ∧ σ.H ≤ i ∧ (i ≤ h ∨ i = σ.H) ∧ gk = h - i ∧ Aside0 (InsA w w3 b bs σ e k i wr))
  case atStart => exact ⟨σ.H, rfl, Nat.le_refl _, .inr rfl, rfl, ⟨⟨by rw [T2_low σ b σ.H (Nat.le_refl _)]; exact HS4.out, by rw [rowN_low (Nat.le_refl _)]; exact HK2.out, by rw [rowP_low (Nat.le_refl _)]; exact HK3.out, HYB.out, Foot.of HB5.out⟩⟩⟩
  case round =>
    clear hH4 HK2 HK3 HB5 HS4 HYB
    obtain ⟨i, rfl, hi1, hi2, hgk, HA⟩ := hrel
    by_cases hih : i < h
    · have hi32 : i < 32 := by omega
      have hi32z : (i : Int) < 32 := by omega
      have hihz : (i : Int) < (h : Int) := by omega
      have hn := HA.out.sk.n_
      have hcn := HA.out.ns.cell hi32
      have hcp := HA.out.ps.cell hi32
      have hfn := HA.out.ns.frozen i
      have hfp := HA.out.ps.frozen i
      have ht0 := HA.out.sk.to_ (List.mem_cons_self (a := b) (l := bs)) hi32
      have ht1 := HA.out.sk.span_ (List.mem_cons_self (a := b) (l := bs)) hi32
      have hf0 := HA.out.sk.frozen (List.mem_cons_self (a := b) (l := bs)) (2 + i * 2)
      have hf1 := HA.out.sk.frozen (List.mem_cons_self (a := b) (l := bs)) (2 + i * 2 + 1)
      have hbn : b ≠ w3.heap.size := by omega
      have hbp : b ≠ w3.heap.size + 1 := by omega
      replace hn : wr.cell? ⟨b, 70, none⟩ = some (.int .i64 (σ.n : Int)) := hn
      rw [ptr_eq2] at ht0
      generalize hg0 : rowN b bs σ k i i = g0 at hcn
      generalize hg1 : rowP bs σ k i i = g1 at hcp
      generalize hg2 : Option.map _ _ = g2 at ht0
      generalize hg3 : Prod.snd _ = g3 at ht1
      clear hg0 hg1 hg2 hg3
      go_wp2
      go_region
      have HA2 := Aside0.mk (HA.out.step HX.out hk (fun c hc => HS.out.lt hc) hlt3 hi1 hi32 _ rfl)
      generalize World.drew _ = wr2 at HA2 ⊢
      clear hn hcn hcp hfn hfp ht0 ht1 hf0 hf1
      go_wp2
      go_roundg (h - (i + 1))
      case measure => omega
      case rel => exact ⟨i + 1, congrArg (Value.int .i64) (by omega), by omega, .inl (by omega), rfl, HA2⟩
    · have hihz : ¬ (i : Int) < (h : Int) := by omega
      have HA2 := Aside0.mk (HA.out.norm (h := h) (by omega))
      clear HA hgk
      have hH := HA2.out.sk.H_
      replace hH : wr.cell? ⟨b, 69, none⟩ = some (.int .i64 (σ.H : Int)) := hH
      have hfH := HA2.out.sk.frozen (List.mem_cons_self (a := b) (l := bs)) 69
      have hlen : b < wr.heap.size := HA2.out.sk.head.lt
      go_wp2_with fail
      have q0 : (wr.alloc (.cells #[.int .i64 (σ.H : Int), .int .i64 (h : Int)] 3)).cell? ⟨wr.heap.size, 0, none⟩ = some (.int .i64 (σ.H : Int)) := by simp
      have q1 : (wr.alloc (.cells #[.int .i64 (σ.H : Int), .int .i64 (h : Int)] 3)).cell? ⟨wr.heap.size, 1, none⟩ = some (.int .i64 (h : Int)) := by simp
      have hhi := highest_calls wr.heap.size (σ.H : Int) (h : Int) _ q0 q1
      rw [mx_nat] at hhi
      have hfH2 : (wr.alloc (.cells #[.int .i64 (σ.H : Int), .int .i64 (h : Int)] 3)).frozen? ⟨b, 69, none⟩ = false := (HA2.out.sk.alloc _).frozen (List.mem_cons_self (a := b) (l := bs)) 69
      have hcH2 : (wr.alloc (.cells #[.int .i64 (σ.H : Int), .int .i64 (h : Int)] 3)).cell? ⟨b, 69, none⟩ = some (.int .i64 (σ.H : Int)) := (HA2.out.sk.alloc _).H_
      refine hhi.mono ?_
      rintro r w5 ⟨rfl, rfl⟩
      clear hhi q0 q1 hH hfH
      have hB : InsB w w3 b bs σ e k h ((wr.setCell ⟨b, 69, none⟩ (.int .i64 ((max σ.H h : Nat) : Int))).alloc (.cells #[.int .i64 (σ.H : Int), .int .i64 (h : Int)] 3)) := by
        have hns := HA2.out.ps.lt
        have hbn : b < w.heap.size := hbl
        exact ⟨(HA2.out.sk.setH (max σ.H h)).alloc _, (HA2.out.ns.far (by omega) _ _).alloc _, (HA2.out.ps.far (by omega) _ _).alloc _, (HA2.out.yb.far (by omega) _ _).alloc _, (HA2.out.ft.setCell _ (.inl List.mem_cons_self)).alloc _⟩
      clear HA2
      go_upto_region 15 with fail
      generalize World.alloc _ (.cells #[.int .i64 (σ.H : Int), .int .i64 (h : Int)] 3) = w6 at hB ⊢
      have e0 := ent_0 hB.yb
      have e1 := ent_1 hB.yb
      have hz := zero62 w6
      have HB6 := Aside0.mk hB
      clear hB hcH2 hfH2
      go_upto_region 16 with fail
      have hx6 : w3.heap.size + 1 < w6.heap.size := HB6.out.ps.lt
      have hC := HB6.out.start _ _ (node0 e h) rfl
      generalize World.alloc w6 _ = w7 at hC ⊢
      generalize w6.heap.size = x at hx6 hC
      clear hz e0 e1 HB6
      have hH7 := hC.sk.H_
      replace hH7 : w7.cell? ⟨b, 69, none⟩ = some (.int .i64 ((max σ.H h : Nat) : Int)) := hH7
      have hp7 := hC.ps.cell (show 0 < 32 by omega)
      have hpk : rowP bs σ k h 0 = .int .i64 (k : Int) := by
        unfold rowP
        rw [if_pos (by omega), prev0 HX.out hk]
      rw [hpk] at hp7
      have HC := Aside0.mk hC
      clear hC hpk
      go_wp2
      clear hp7 hH7
      have hkz : (k : Int) ≤ 1000 := by omega
      have hF := fun c hc => HS.out.lt (c := c) hc
      have HF := Aside0.mk hF
      clear hF
      obtain ⟨HH, hHH⟩ : ∃ HH, max σ.H h = HH := ⟨_, rfl⟩
      have hHH2 : σ.H ≤ HH ∧ h ≤ HH ∧ HH ≤ 32 := by omega
      rw [hHH]
      have HHH := Aside0.mk hHH
      clear hHH
      go_loopg [88] HH (fun gk v88 wr => ∃ m : Nat, v88 = .int .i64 (m : Int) ∧ m ≤ HH ∧ gk = HH - m ∧ Aside0 (InsC w w3 b bs σ e k h x m wr))
      case atStart => exact ⟨0, rfl, Nat.zero_le _, rfl, HC⟩
      case round =>
        clear HC
        obtain ⟨m, rfl, hm, hgk2, HC⟩ := hrel
        by_cases hmH : m < HH
        · have hm32 : m < 32 := by omega
          have hm32z : (m : Int) < 32 := by omega
          have hmHz : (m : Int) < (HH : Int) := by omega
          have hsp := prevP_spec (lvs σ bs) m k
          have hsml := link2_small (h := h) HX.out HS.out.ne hk (show m < max σ.H h by rw [HHH.out]; exact hmH)
          have hcn := HC.out.ns.cell hm32
          have hcp := HC.out.ps.cell hm32
          have hrn : rowN b bs σ k h m = .pointer (some ⟨nd b bs (prevP (lvs σ bs) m k), 0, none⟩) := by unfold rowN; rw [if_pos (by rw [HHH.out]; exact hmH)]; rfl
          have hrp : rowP bs σ k h m = .int .i64 ((prevP (lvs σ bs) m k : Nat) : Int) := by unfold rowP; rw [if_pos (by rw [HHH.out]; exact hmH)]
          rw [hrn] at hcn
          rw [hrp] at hcp
          clear hrn hrp
          have hne : ∀ p, p ≤ bs.length → nd b bs p ≠ x := fun p hp he => by have := HF.out _ (nd_mem (b := b) hp); omega
          have hPl : prevP (lvs σ bs) m k ≤ bs.length := Nat.le_trans hsp.le hk
          have hPx := hne _ hPl
          have hPm := nd_mem (b := b) hPl
          have hPlt := HF.out _ hPm
          have hm2 : nd b bs (prevP (lvs σ bs) m k) ∈ b :: x :: bs := by
            rcases List.mem_cons.mp hPm with h1 | h1
            · rw [h1]; exact List.mem_cons_self
            · exact List.mem_cons_of_mem _ (List.mem_cons_of_mem _ h1)
          have hxm : x ∈ b :: x :: bs := List.mem_cons_of_mem _ List.mem_cons_self
          have hto := HC.out.sk.to_ hm2 hm32
          have hsn := HC.out.sk.span_ hm2 hm32
          have hxt := HC.out.sk.to_ hxm hm32
          have hxs := HC.out.sk.span_ hxm hm32
          have f0 := HC.out.sk.frozen hm2 (2 + m * 2)
          have f1 := HC.out.sk.frozen hm2 (2 + m * 2 + 1)
          have g0 := HC.out.sk.frozen hxm (2 + m * 2)
          have g1 := HC.out.sk.frozen hxm (2 + m * 2 + 1)
          rw [tow_at, if_neg hPx] at hto hsn
          rw [tow_at, if_pos rfl] at hxt hxs
          rw [ptr_eq2] at hto hxt
          have hple := hsp.le
          by_cases hmh : m < h
          · have hmhz : ¬ (h : Int) ≤ (m : Int) := by omega
            have HFin := Aside0.mk (fun W1 W' => HC.out.low (W' := W') hk HF.out hlt3 hx6 (show m < max σ.H h by rw [HHH.out]; exact hmH) hm32 hmh W1)
            rw [ptr_eq2] at HFin
            clear HC hm2 hxm hPm hPl hne
            generalize (T2 σ b h (nd b bs (prevP (lvs σ bs) m k)) m).1 = o0 at hto HFin
            generalize (T2 σ b h (nd b bs (prevP (lvs σ bs) m k)) m).2 = s0 at hsn HFin hsml
            generalize Option.map _ o0 = P0 at hto HFin
            generalize nd b bs (prevP (lvs σ bs) m k) = c at hcn hPx hPlt hto hsn f0 f1 HFin
            generalize prevP (lvs σ bs) m k = pz at hcp hple HFin
            clear hsp
            have hw1 : IntKind.i64.wrap ((k : Int) - (pz : Int)) = (k : Int) - (pz : Int) := IntWalk.i64_in _ (by omega)
            have hw2 : IntKind.i64.wrap (s0 - ((k : Int) - (pz : Int))) = s0 - ((k : Int) - (pz : Int)) := IntWalk.i64_in _ (by omega)
            have hw3 : IntKind.i64.wrap ((k : Int) - (pz : Int) + 1) = (k : Int) - (pz : Int) + 1 := IntWalk.i64_in _ (by omega)
            go_wp2
            go_region
            generalize hW1 : World.drew _ = W1
            have kc : W1.heap[c]? = wr.heap[c]? := by
              rw [← hW1]
              show ((wr.setCell _ _).setCell _ _).heap[c]? = _
              rw [Below.heap_setCell _ _ _ _ (by show c ≠ x; exact hPx), Below.heap_setCell _ _ _ _ (by show c ≠ x; exact hPx)]
            replace hto : W1.cell? ⟨c, 2 + m * 2, none⟩ = some (.pointer P0) := (cell_of_block kc).trans hto
            replace hsn : W1.cell? ⟨c, 2 + m * 2 + 1, none⟩ = some (.int .i64 s0) := (cell_of_block kc).trans hsn
            replace f0 : W1.frozen? ⟨c, 2 + m * 2, none⟩ = false := (World.frozen?_of_block (a := ⟨c, 2 + m * 2, none⟩) kc).trans f0
            replace f1 : W1.frozen? ⟨c, 2 + m * 2 + 1, none⟩ = false := (World.frozen?_of_block (a := ⟨c, 2 + m * 2 + 1, none⟩) kc).trans f1
            have HW1 := Aside0.mk hW1
            clear hW1 kc hxt hxs g0 g1 hcn hcp
            go_wp2
            have HC2 := Aside0.mk (HFin.out W1 _ HW1.out rfl)
            go_roundg (HH - (m + 1))
            case measure => omega
            case rel => exact ⟨m + 1, congrArg (Value.int .i64) (by first | exact wrap_succ m (by omega) | omega), by omega, rfl, HC2⟩
          · have hmhz : (h : Int) ≤ (m : Int) := by omega
            have HFin := Aside0.mk (fun W' => HC.out.high (W' := W') hk HF.out hlt3 (show w.heap.size ≤ x by omega) (show m < max σ.H h by rw [HHH.out]; exact hmH) hm32 (by omega))
            clear HC hm2 hxm hPm hPl hne hxt hxs g0 g1 hto hcp
            generalize (T2 σ b h (nd b bs (prevP (lvs σ bs) m k)) m).2 = s0 at hsn HFin hsml
            generalize nd b bs (prevP (lvs σ bs) m k) = c at hcn hPx hPlt hsn f0 f1 HFin
            have hw1 : IntKind.i64.wrap (s0 + 1) = s0 + 1 := IntWalk.i64_in _ (by omega)
            go_wp2
            have HC2 := Aside0.mk (HFin.out _ rfl)
            go_roundg (HH - (m + 1))
            case measure => omega
            case rel => exact ⟨m + 1, congrArg (Value.int .i64) (by first | exact wrap_succ m (by omega) | omega), by omega, rfl, HC2⟩
        · have hmHz : ¬ (m : Int) < (HH : Int) := by omega
          obtain rfl : m = HH := by omega
          have hxF : ∀ p, p ≤ bs.length → nd b bs p ≠ x := fun p hp he => by have := HF.out _ (nd_mem (b := b) hp); omega
          have hcn := HC.out.ns.cell (show 0 < 32 by omega)
          have hrn : rowN b bs σ k h 0 = .pointer (some ⟨nd b bs k, 0, none⟩) := by
            unfold rowN
            rw [if_pos (by rw [HHH.out]; omega), prev0 HX.out hk]
            rfl
          rw [hrn] at hcn
          have hbx := HC.out.sk.bk_ (c := x) List.mem_cons_self
          have hbx0 : (σI σ b bs k x e h m).bk x = none := if_pos rfl
          rw [hbx0] at hbx
          replace hbx : wr.cell? ⟨x, 67, none⟩ = some (.pointer none) := hbx
          have fbx := HC.out.sk.frozen (c := x) (List.mem_cons_of_mem _ List.mem_cons_self) 67
          have hxb : x ≠ b := fun he => by have := HF.out b List.mem_cons_self; omega
          clear hgk2 hm hrn
          by_cases hk0 : k = 0
          · have hnd0 : nd b bs k = b := by rw [hk0]; rfl
            rw [hnd0] at hcn
            have hpq := neq_same b
            go_wp2
            go_quiet (fail)
            go_upto_region 29 with fail
            have hD0 : Sk (wr.drewN nq) b (x :: bs) (σD σ b bs k x e h) := by
              refine Sk.move (W := wr) ?_ (fun _ _ => rfl)
              refine HC.out.sk.ext (fun _ _ => rfl) (fun _ _ => rfl) (fun c _ j _ => ?_) (fun c _ => ?_) rfl rfl rfl
              · unfold σD; rw [HHH.out]
              · exact bk_zero hk0 c
            have hF0 : Foot (b :: bs) w (wr.drewN nq) := HC.out.ft.below (pw_below_drewN (Below.refl _ _) nq)
            generalize wr.drewN nq = w8 at hD0 hF0 ⊢
            have hD := hD0
            have hF8 := hF0
            clear hD0 hF0 hcn hbx fbx HC
            have hsz : x < w8.heap.size := (hD.node x List.mem_cons_self).lt
            have hnx := hD.to_ (c := x) (List.mem_cons_of_mem _ List.mem_cons_self) (show 0 < 32 by omega)
            have hnx2 : (σD σ b bs k x e h).tow x 0 = Tn σ b bs k x h x 0 := tow_zero h1
            rw [hnx2, next0 HX.out HS.out.ne hk hxF h1] at hnx
            have hn8 := hD.n_
            replace hn8 : w8.cell? ⟨b, 70, none⟩ = some (.int .i64 (σ.n : Int)) := hn8
            have hl8 := hD.last_
            rw [ptr_eq2] at hl8
            generalize Option.map _ (σD σ b bs k x e h).last = lv8 at hl8
            have fb := hD.frozen (c := b) List.mem_cons_self
            have fb68 := fb 68
            have fb70 := fb 70
            have hnz : IntKind.i64.wrap ((σ.n : Int) + 1) = (σ.n : Int) + 1 := IntWalk.i64_in _ (by have := HX.out.len; omega)
            by_cases hkl : k < bs.length
            · rw [if_pos hkl] at hnx
              replace hnx : w8.cell? ⟨x, 2, none⟩ = some (.pointer (some ⟨nd b bs (k + 1), 0, none⟩)) := hnx
              have hm8 := nd_mem' (b := b) (show 1 ≤ k + 1 by omega) (show k + 1 ≤ bs.length by omega)
              have hb8 := hD.bk_ (c := nd b bs (k + 1)) (List.mem_cons_of_mem _ hm8)
              rw [ptr_eq2] at hb8
              generalize Option.map _ ((σD σ b bs k x e h).bk (nd b bs (k + 1))) = bv8 at hb8
              have fn8 := hD.frozen (c := nd b bs (k + 1)) (List.mem_cons_of_mem _ (List.mem_cons_of_mem _ hm8)) 67
              have hbne : nd b bs (k + 1) ≠ b := fun he => HS.out.ne (by rw [← he]; exact hm8)
              have HFin := Aside0.mk (fun W' => fin_next (W' := W') hD hF8 hkl (fun hc => by have := HF.out x (List.mem_cons_of_mem _ hc); omega))
              generalize nd b bs (k + 1) = c8 at hnx hb8 fn8 HFin hbne
              clear hD hF8 hm8 fb hnx2
              go_wp2
              go_ret
              obtain ⟨p1, p2⟩ := HFin.out _ rfl
              exact ⟨rfl, x, by omega, p1, p2⟩
            · rw [if_neg hkl] at hnx
              replace hnx : w8.cell? ⟨x, 2, none⟩ = some (.pointer none) := hnx
              have HFin := Aside0.mk (fun W' => fin_last (W' := W') hD hF8 hkl)
              clear hD hF8 fb hnx2
              go_wp2
              go_ret
              obtain ⟨p1, p2⟩ := HFin.out _ rfl
              exact ⟨rfl, x, by omega, p1, p2⟩
          · have hndb : nd b bs k ≠ b := fun he => HS.out.ne (by rw [← he]; exact nd_mem' (by omega) hk)
            have HD0 := Aside0.mk (fun nq W' => bk_pos (W' := W') HC.out hk0 HHH.out nq (show w.heap.size ≤ x by omega))
            have hpq : ∀ nq, (binOp .neq 56 (.pointer (some ⟨nd b bs k, 0, none⟩)) (.pointer (some ⟨b, 0, none⟩))).run Try.prog (wr.drewN nq) = .ok (.bool true) (wr.drewN nq) := fun nq => by
              obtain ⟨C1, hC1, _⟩ := (HC.out.sk.node _ (List.mem_cons_of_mem _ (nd_mem' (by omega) hk))).ex
              obtain ⟨C2, hC2, _⟩ := HC.out.sk.head.ex
              exact neq_other _ _ _ hndb hC1 hC2
            generalize hndk : nd b bs k = ck at hcn hndb HD0 hpq
            have HNDK := Aside0.mk hndk
            clear hndk
            go_wp2
            go_quiet (fail)
            go_upto_region 29 with fail
            obtain ⟨hD0, hF0⟩ := HD0.out nq _ rfl
            generalize World.setCell _ ⟨x, 67, none⟩ _ = w8 at hD0 hF0 ⊢
            have hD := hD0
            have hF8 := hF0
            clear hD0 hF0 hcn hbx fbx HC
            have hsz : x < w8.heap.size := (hD.node x List.mem_cons_self).lt
            have hnx := hD.to_ (c := x) (List.mem_cons_of_mem _ List.mem_cons_self) (show 0 < 32 by omega)
            have hnx2 : (σD σ b bs k x e h).tow x 0 = Tn σ b bs k x h x 0 := tow_zero h1
            rw [hnx2, next0 HX.out HS.out.ne hk hxF h1] at hnx
            have hn8 := hD.n_
            replace hn8 : w8.cell? ⟨b, 70, none⟩ = some (.int .i64 (σ.n : Int)) := hn8
            have hl8 := hD.last_
            rw [ptr_eq2] at hl8
            generalize Option.map _ (σD σ b bs k x e h).last = lv8 at hl8
            have fb := hD.frozen (c := b) List.mem_cons_self
            have fb68 := fb 68
            have fb70 := fb 70
            have hnz : IntKind.i64.wrap ((σ.n : Int) + 1) = (σ.n : Int) + 1 := IntWalk.i64_in _ (by have := HX.out.len; omega)
            by_cases hkl : k < bs.length
            · rw [if_pos hkl] at hnx
              replace hnx : w8.cell? ⟨x, 2, none⟩ = some (.pointer (some ⟨nd b bs (k + 1), 0, none⟩)) := hnx
              have hm8 := nd_mem' (b := b) (show 1 ≤ k + 1 by omega) (show k + 1 ≤ bs.length by omega)
              have hb8 := hD.bk_ (c := nd b bs (k + 1)) (List.mem_cons_of_mem _ hm8)
              rw [ptr_eq2] at hb8
              generalize Option.map _ ((σD σ b bs k x e h).bk (nd b bs (k + 1))) = bv8 at hb8
              have fn8 := hD.frozen (c := nd b bs (k + 1)) (List.mem_cons_of_mem _ (List.mem_cons_of_mem _ hm8)) 67
              have hbne : nd b bs (k + 1) ≠ b := fun he => HS.out.ne (by rw [← he]; exact hm8)
              have HFin := Aside0.mk (fun W' => fin_next (W' := W') hD hF8 hkl (fun hc => by have := HF.out x (List.mem_cons_of_mem _ hc); omega))
              generalize nd b bs (k + 1) = c8 at hnx hb8 fn8 HFin hbne
              clear hD hF8 hm8 fb hnx2
              go_wp2
              go_ret
              obtain ⟨p1, p2⟩ := HFin.out _ rfl
              exact ⟨rfl, x, by omega, p1, p2⟩
            · rw [if_neg hkl] at hnx
              replace hnx : w8.cell? ⟨x, 2, none⟩ = some (.pointer none) := hnx
              have HFin := Aside0.mk (fun W' => fin_last (W' := W') hD hF8 hkl)
              clear hD hF8 fb hnx2
              go_wp2
              go_ret
              obtain ⟨p1, p2⟩ := HFin.out _ rfl
              exact ⟨rfl, x, by omega, p1, p2⟩
end Go.Proofs.Ytnlbdmiflihghaa.P
