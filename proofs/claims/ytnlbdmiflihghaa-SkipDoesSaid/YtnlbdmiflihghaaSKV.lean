/- The reference list: plain laws of its functions; where it lies. Conditions: each theorem names its own. -/
import Derived.Test.YtnlbdmiflihghaaPL5
import Derived.Test.YtnlbdmiflihghaaPL2
import Derived.Test.YtnlbdmiflihghaaPx4
namespace Go.Proofs.Ytnlbdmiflihghaa.P
open Go.RowKit Go.Shelf Go.Proofs.YtnlbdmiflihghaaW.PrintWords Go.Proofs.YtnlbdmiflihghaaW.PrintLast Go.Proofs.YtnlbdmiflihghaaW.PrintMore Go.Proofs.Ytnlbdmiflihghaa.SK
attribute [local go_sem] Oper.semAt_some

section
def cntE (e : En) : List En → Nat
  | [] => 0
  | a :: l => (if ltE a e = true then 1 else 0) + cntE e l
theorem cntE_le (e : En) : ∀ L, cntE e L ≤ L.length
  | [] => Nat.le_refl _
  | a :: l => by
    have := cntE_le e l
    unfold cntE
    rw [List.length_cons]
    split <;> omega
theorem cntE_zero (e : En) : ∀ L, (∀ x, x ∈ L → ltE x e = false) → cntE e L = 0
  | [], _ => rfl
  | a :: l, h => by
    unfold cntE
    rw [if_neg (by rw [h a List.mem_cons_self]; simp), cntE_zero e l (fun x hx => h x (List.mem_cons_of_mem a hx))]
theorem cntE_rank (e : En) : ∀ L, Srt L → cntE e L = rank e L
  | [], _ => rfl
  | a :: l, hs => by
    have hs' := List.pairwise_cons.mp hs
    unfold cntE rank
    by_cases ha : ltE a e = true
    · rw [if_pos ha, if_pos ha, cntE_rank e l hs'.2]
      omega
    · rw [if_neg ha, if_neg ha, cntE_zero]
      intro x hx
      cases h2 : ltE x e with
      | false => rfl
      | true => exact absurd (ltE_trans (hs'.1 x hx) h2) ha
theorem rd_En {L : List En} {i : Nat} (h : i < L.length) : rd_T28 (L.map toS) (i : Int) = toS L[i] := by
  unfold rd_T28
  rw [show ((i : Nat) : Int).toNat = i by omega, List.getD_eq_getElem?_getD, List.getElem?_map, List.getElem?_eq_getElem h]
  rfl
theorem seek_l0 (e : En) (L : List En) (h12 : ∀ x, x ∈ L → x.1.size ≤ 12) (hm : L.length < 9223372036854775807) : ∀ m i a : Nat, ∀ f : Bool, i + m = L.length → a ≤ i →
    palioref10_Seek.l0 (26 + m + 1) (L.map toS) (a : Int) f (i : Int) e.1 e.2 = some (((a + cntE e (L.drop i) : Nat) : Int), f || isin e (L.drop i)) := by
  intro m
  induction m with
  | zero =>
    intro i a f hi ha
    unfold palioref10_Seek.l0
    rw [if_neg (by rw [List.length_map]; omega), List.drop_eq_nil_of_le (by omega)]
    show some ((a : Int), f) = some (((a + 0 : Nat) : Int), f || false)
    simp
  | succ m ih =>
    intro i a f hi ha
    have hil : i < L.length := by omega
    have hle := ahead_ref L[i].1 L[i].2 e.1 e.2 (Nat.le_trans (h12 _ (List.getElem_mem hil)) (by decide)) (26 + (m + 1)) (by have := h12 _ (List.getElem_mem hil); omega)
    unfold palioref10_Seek.l0
    rw [if_pos (by rw [List.length_map]; omega), if_pos (by omega), rd_En hil]
    show ((palioref09_Less.f (26 + (m + 1)) L[i].1 L[i].2 e.1 e.2).bind _) = _
    rw [hle]
    have hd : L.drop i = L[i] :: L.drop (i + 1) := List.drop_eq_getElem_cons hil
    have hw1 : wrap64 ((i : Int) + 1) = ((i + 1 : Nat) : Int) := wrap_succ i (by omega)
    have hw2 : wrap64 ((a : Int) + 1) = ((a + 1 : Nat) : Int) := wrap_succ a (by omega)
    have hin : isin e (L.drop i) = (eqE L[i] e || isin e (L.drop (i + 1))) := by rw [hd]; rfl
    have hcn : cntE e (L.drop i) = (if ltE L[i] e = true then 1 else 0) + cntE e (L.drop (i + 1)) := by rw [hd]; rfl
    have hq : ((toS L[i]).f0.toList == e.1.toList && ((toS L[i]).f1 == e.2)) = eqE L[i] e := rfl
    show (if ltE L[i] e = true then _ else _) = _
    rw [hw1, hw2, hq, hin, hcn]
    by_cases hl : ltE L[i] e = true
    · rw [if_pos hl, if_pos hl]
      cases f with
      | true =>
        rw [if_pos rfl]
        have := ih (i + 1) (a + 1) true (by omega) (by omega)
        rw [show 26 + (m + 1) = 26 + m + 1 by omega, this]
        simp
        omega
      | false =>
        rw [if_neg (by simp)]
        have := ih (i + 1) (a + 1) (eqE L[i] e) (by omega) (by omega)
        rw [show 26 + (m + 1) = 26 + m + 1 by omega, this]
        simp
        omega
    · rw [if_neg hl, if_neg hl]
      cases f with
      | true =>
        rw [if_pos rfl]
        have := ih (i + 1) a true (by omega) (by omega)
        rw [show 26 + (m + 1) = 26 + m + 1 by omega, this]
        simp
      | false =>
        rw [if_neg (by simp)]
        have := ih (i + 1) a (eqE L[i] e) (by omega) (by omega)
        rw [show 26 + (m + 1) = 26 + m + 1 by omega, this]
        simp
theorem seek_f (e : En) (L : List En) (hs : Srt L) (h12 : ∀ x, x ∈ L → x.1.size ≤ 12) (hm : L.length < 9223372036854775807) : palioref10_Seek.f (26 + L.length + 1) (L.map toS) e.1 e.2 = some (((rank e L : Nat) : Int), isin e L) := by
  unfold palioref10_Seek.f
  have := seek_l0 e L h12 hm L.length 0 0 false (by omega) (Nat.le_refl _)
  rw [List.drop_zero, cntE_rank e L hs, Nat.zero_add] at this
  exact this
/-- Seek of a row of entries. -/
theorem rseek_calls (e : En) (L : List En) (n : Nat) (hn : L.length = n) (hs : Srt L) (h12 : ∀ x, x ∈ L → x.1.size ≤ 12) (hm : n < 9223372036854775807) (A0 : Option Addr) (c0 : Nat) (w : World) (h0 : Kd.C k28 w A0 n (L.map toS)) (g0 : n ≤ c0) :
    Calls Try.prog 35 #[.slice A0 n c0, .agg #[.string e.1, .int .i64 e.2]] w fun r w' => r = .returned (.tuple #[.int .i64 (rank e L : Nat), .bool (isin e L)]) ∧ Below w.heap.size w w' := by
  have hl : (L.map toS).length = n := by rw [List.length_map]; exact hn
  have := palioref10_Seek.calls _ A0 c0 (L.map toS) e.1 e.2 _ _ w (by rw [hl]; exact h0) (by omega) (seek_f e L hs h12 (by omega))
  rw [hl] at this
  exact this
end
/-- The reference list in memory: its struct, its two rows; R: the blocks that are its own. -/
structure Rf (m : Nat) (w : World) (r : Nat) (R : List Nat) (p : Pl2) : Prop where
  ex : ∃ vE vI, w.heap[r]? = some (.cells #[vE, vI] 47 (0, 0)) ∧ Kd.R k28 28 w m (· ∈ R) vE (p.1.map toS) ∧ Kd.R (Kd.int .i64) 3 w m (· ∈ R) vI (p.2.map Int.ofNat)
  mem : r ∈ R
  lt : ∀ k, k ∈ R → k < w.heap.size
  ge : ∀ k, k ∈ R → m ≤ k
section
variable {m r : Nat} {w w' : World} {R : List Nat} {p : Pl2}
theorem Rf.move (h : Rf m w r R p) (hm : ∀ k, k ∈ R → w'.heap[k]? = w.heap[k]?) (hs : w.heap.size ≤ w'.heap.size) : Rf m w' r R p := by
  obtain ⟨⟨vE, vI, h1, h2, h3⟩, h4, h5, h6⟩ := h
  exact ⟨⟨vE, vI, (hm r h4).trans h1, Kd.R_move h2 hm, Kd.R_move h3 hm⟩, h4, fun k hk => Nat.lt_of_lt_of_le (h5 k hk) hs, h6⟩
theorem Rf.below (h : Rf m w r R p) (hb : Below w.heap.size w w') : Rf m w' r R p := h.move (fun k hk => hb.block k (h.lt k hk)) hb.size
/-- The two rows as they read. -/
theorem Rf.rows (h : Rf m w r R p) : ∃ A c A' c', w.cell? ⟨r, 0, none⟩ = some (.slice A p.1.length c) ∧ w.cell? ⟨r, 1, none⟩ = some (.slice A' p.2.length c') ∧ p.1.length ≤ c ∧ p.2.length ≤ c' ∧ Kd.C k28 w A p.1.length (p.1.map toS) ∧ Kd.C (Kd.int .i64) w A' p.2.length (p.2.map Int.ofNat) := by
  obtain ⟨⟨vE, vI, h1, h2, h3⟩, _⟩ := h
  obtain ⟨A, c, rfl, h4, h5⟩ := Kd.R_reads h2
  obtain ⟨A', c', rfl, h6, h7⟩ := Kd.R_reads h3
  have e1 : (p.1.map toS).length = p.1.length := List.length_map _
  have e2 : (p.2.map Int.ofNat).length = p.2.length := List.length_map _
  rw [e1] at h4 h5
  rw [e2] at h6 h7
  rw [e1, e2] at h1
  exact ⟨A, c, A', c', cell_at h1 rfl, cell_at h1 rfl, h4, h6, h5, h7⟩
end
attribute [local go_sem high] max_mx min_mn
set_option maxHeartbeats 8000000 in
set_option maxRecDepth 100000 in
theorem rlevels_calls {m r : Nat} {w : World} {R : List Nat} {p : Pl2} (h : Rf m w r R p) : Calls Try.prog 22 #[.pointer (some ⟨r, 0, none⟩)] w fun e w' => e = .returned (.int .i64 (top p.2 : Int)) ∧ w' = w := by
  obtain ⟨A, c, A', c', h0, h1, _, hc', _, hC⟩ := h.rows
  generalize hL : p.2 = L at h1 hc' hC ⊢
  clear h hL
  have hCl : (L.map Int.ofNat).length = L.length := List.length_map _
  have hmx : L.length ≤ 9223372036854775807 := hC.2.1
  have HC := Aside0.mk (show Kd.C (Kd.int .i64) w A' (L.map Int.ofNat).length (L.map Int.ofNat) by rw [hCl]; exact hC)
  clear hC h0
  go_enter Try.func22, Try.ntmps22
  go_wp2
  go_loopg [3, 4] L.length (fun gk v3 v4 wr => ∃ i j : Nat, v3 = .int .i64 (j : Int) ∧ v4 = .int .i64 (i : Int) ∧ i ≤ L.length ∧ gk = L.length - i ∧ max j (top (L.drop i)) = top L ∧ wr = w)
  case atStart => exact ⟨0, 0, rfl, rfl, Nat.zero_le _, rfl, by simp, rfl⟩
  case round =>
    obtain ⟨i, j, rfl, rfl, hi, hgk, hmax, hwr⟩ := hrel
    subst hwr
    by_cases hin : i < L.length
    · have hiz : (i : Int) < (L.length : Int) := by omega
      obtain ⟨ad, hA, x0⟩ := at_I HC.out i (by rw [hCl]; exact hin)
      subst hA
      have hg : (L.map Int.ofNat).getD i 0 = ((L.getD i 0 : Nat) : Int) := by
        rw [List.getD_eq_getElem?_getD, List.getElem?_map, List.getD_eq_getElem?_getD, List.getElem?_eq_getElem hin]
        rfl
      rw [hg] at x0
      have hdr : L.drop i = L.getD i 0 :: L.drop (i + 1) := drop_getD L i hin
      rw [hdr] at hmax
      replace hmax : max j (max (L.getD i 0) (top (L.drop (i + 1)))) = top L := hmax
      rw [← Nat.max_assoc] at hmax
      have hmm := mx_nat j (L.getD i 0)
      generalize L.getD i 0 = a at x0 hmax hmm
      clear hg hdr
      go_wp2
      go_roundg (L.length - (i + 1))
      case measure => omega
      case rel => exact ⟨i + 1, max j a, by first | rw [hmm] | rfl, congrArg (Value.int .i64) (by first | exact wrap_succ i (by omega) | omega), by omega, rfl, hmax, rfl⟩
    · have hiz : ¬ (i : Int) < (L.length : Int) := by omega
      have hj : (j : Int) = (top L : Int) := by
        rw [List.drop_eq_nil_of_le (by omega)] at hmax
        have : max j 0 = top L := hmax
        omega
      go_wp2
      go_ret
      exact ⟨by first | rfl | rw [hj], rfl⟩
end Go.Proofs.Ytnlbdmiflihghaa.P

/- The reference list's Range, Spans. Conditions: each theorem names its own. -/
namespace Go.Proofs.Ytnlbdmiflihghaa.P
open Go.RowKit Go.Shelf Go.Proofs.YtnlbdmiflihghaaW.PrintWords Go.Proofs.YtnlbdmiflihghaaW.PrintLast Go.Proofs.YtnlbdmiflihghaaW.PrintMore Go.Proofs.Ytnlbdmiflihghaa.SK
attribute [local go_sem] Oper.semAt_some
attribute [local go_sem high] max_mx min_mn

theorem cut28 (A : Option Addr) (n c F T : Nat) (h1 : F ≤ T) (h2 : T ≤ n) (hc : n ≤ c) : ∀ W : World, (Instr.slice 42 (.slice A n c) (some (.int .i64 (F : Int))) (some (.int .i64 (T : Int))) none).run Try.prog W = .ok (.slice (if c = F then A else A.map (·.add (F * 2))) (T - F) (c - F)) W := by
  obtain ⟨i0, hi, hz0, hz1, hz2⟩ := info_parts info28'
  exact cut_mid 42 28 .i64 .i64 Try.underlying42 hi 2 hz1 A n c F T (by omega) (by omega) (by omega) hc
/-- A row of entries handed back. -/
def GotE (w : World) (e : Ending) (L : List En) : Prop := ∃ A c, e = .returned (.slice A L.length c) ∧ L.length ≤ c ∧ Kd.C k28 w A L.length (L.map toS)
set_option maxHeartbeats 8000000 in
set_option maxRecDepth 100000 in
theorem rrange_calls {m r : Nat} {w : World} {R : List Nat} {p : Pl2} (h : Rf m w r R p) (f t : Int) : Calls Try.prog 23 #[.pointer (some ⟨r, 0, none⟩), .int .i64 f, .int .i64 t] w fun e w' => GotE w e (rangeP p f t) ∧ w' = w := by
  obtain ⟨A, c, A', c', h0, h1, hc, hc', hC, _⟩ := h.rows
  clear h h1
  obtain ⟨F, T, hF, hT, hFT, hTn⟩ := in_nat p.1.length f t
  have hr : rangeP p f t = (p.1.take T).drop F := by
    unfold rangeP
    rw [hF, hT, List.drop_take]
    rfl
  rw [hr]
  unfold inT at hT
  rw [hF] at hT
  unfold inF at hF
  clear hr
  generalize p.1 = L at h0 hc hC hF hT hTn ⊢
  have hl : ((L.take T).drop F).length = T - F := by rw [List.length_drop, List.length_take]; omega
  have hlm : (L.map toS).length = L.length := List.length_map _
  have hm := Kd.C_mid (k := k28) (xs := L.map toS) (lo := F) (hi := T) (c := c) (by rw [hlm]; exact hC) hFT (by omega) (by omega)
  rw [← List.map_take, ← List.map_drop, List.length_map] at hm
  replace hm : Kd.C k28 w (if c = F then A else A.map (·.add (F * 2))) ((L.take T).drop F).length (((L.take T).drop F).map toS) := hm
  have hcut := cut28 A L.length c F T hFT hTn hc
  generalize (if c = F then A else A.map (·.add (F * 2))) = AA at hm hcut
  rw [← hl] at hcut
  have HG : Aside0 (GotE w (.returned (.slice AA ((L.take T).drop F).length (c - F))) ((L.take T).drop F)) := ⟨⟨_, _, rfl, by omega, hm⟩⟩
  clear hm hC hlm
  generalize (L.take T).drop F = L2 at hl hcut HG ⊢
  have HL := Aside0.mk hl
  clear hl
  go_enter Try.func23, Try.ntmps23
  go_wp2
  go_ret
  exact ⟨HG.out, rfl⟩
section
theorem gaps_nil (i : Nat) : ∀ (l : List Nat) (d : Nat), (∀ c, c ∈ l → c ≤ i) → gaps i l d = []
  | [], _, _ => rfl
  | a :: l, d, h => by
    have := h a List.mem_cons_self
    unfold gaps
    rw [if_neg (by omega)]
    exact gaps_nil i l (d + 1) (fun c hc => h c (List.mem_cons_of_mem a hc))
theorem spansP_gaps {p : Pl2} {l : Int} (h : 1 ≤ l) : spansP p l = gaps (l.toNat - 1) p.2 0 := by
  unfold spansP
  split
  · refine (gaps_nil _ _ _ (fun c hc => ?_)).symm
    have := top_le hc
    omega
  · rfl
theorem spansP_big {p : Pl2} {l : Int} (h : ∀ c, c ∈ p.2 → c ≤ 32) (hl : l < 1 ∨ 32 < l) : spansP p l = [] := by
  unfold spansP
  rw [if_pos]
  rcases hl with hl | hl
  · exact .inl hl
  · rcases top_in p.2 with h0 | h0
    · omega
    · have := h _ h0
      omega
end
set_option maxHeartbeats 8000000 in
set_option maxRecDepth 100000 in
theorem rspans_calls {m r : Nat} {w : World} {R : List Nat} {p : Pl2} (h : Rf m w r R p) (h32 : ∀ c, c ∈ p.2 → c ≤ 32) (hsm : p.2.length ≤ 1000) (l : Int) : Calls Try.prog 25 #[.pointer (some ⟨r, 0, none⟩), .int .i64 l] w fun e w' => ∃ v, e = .returned v ∧ RowI w' w.heap.size v (spansP p l) ∧ Below w.heap.size w w' := by
  obtain ⟨A, c, A', c', h0, h1, _, hc', _, hC⟩ := h.rows
  have hblk : r < w.heap.size := h.lt r h.mem
  clear h h0
  by_cases hl : 1 ≤ l ∧ l ≤ 32
  · rw [spansP_gaps hl.1]
    obtain ⟨ln, rfl⟩ : ∃ n : Nat, l = (n : Int) := ⟨l.toNat, by omega⟩
    have hl1 : (ln : Int) ≥ 1 := by omega
    have hl2 : (ln : Int) ≤ 32 := by omega
    rw [show ((ln : Nat) : Int).toNat = ln by omega]
    generalize hL : p.2 = L at h1 hc' hC hsm ⊢
    clear hL h32
    have hCl : (L.map Int.ofNat).length = L.length := List.length_map _
    have HC := Aside0.mk (show Kd.C (Kd.int .i64) w A' (L.map Int.ofNat).length (L.map Int.ofNat) by rw [hCl]; exact hC)
    have HK : Aside0 (∀ wr : World, Below w.heap.size w wr → wr.cell? ⟨r, 1, none⟩ = some (.slice A' L.length c')) := ⟨fun wr hb => (hb.cell (p := ⟨r, 1, none⟩) hblk).trans h1⟩
    generalize hG : gaps (ln - 1) L 0 = G
    have HG : Aside0 ([] ++ gaps (ln - 1) (L.drop 0) 0 = G) := ⟨hG⟩
    have HB := Aside0.mk (Below.refl w.heap.size w)
    clear hC h1 hG
    go_enter Try.func25, Try.ntmps25
    go_wp2
    go_loopg [5, 6, 7] L.length (fun gk v5 v6 v7 wr => ∃ (i d : Nat) (A : Option Addr) (k c : Nat) (out : List Int), v5 = .slice A k c ∧ v6 = .int .i64 ((i : Int) - 1 - d) ∧ v7 = .int .i64 (i : Int) ∧ d ≤ i ∧ i ≤ L.length ∧ gk = L.length - i ∧ out.length ≤ i ∧ Aside0 (out ++ gaps (ln - 1) (L.drop i) d = G) ∧ Aside0 (RowI wr w.heap.size (.slice A k c) out) ∧ Aside0 (Below w.heap.size w wr))
    case atStart => exact ⟨0, 0, none, 0, 0, [], rfl, rfl, rfl, Nat.le_refl _, Nat.zero_le _, rfl, Nat.le_refl _, HG, ⟨rowI_nil _ _⟩, HB⟩
    case round =>
      clear HG HB
      obtain ⟨i, d, A1, k1, c1, out, rfl, rfl, rfl, hdi, hi, hgk, hol, HG, HR, HB⟩ := hrel
      have h1 := HK.out wr HB.out
      by_cases hin : i < L.length
      · have hiz : (i : Int) < (L.length : Int) := by omega
        obtain ⟨ad, hA, x0⟩ := at_I (Kd.C_below HC.out HB.out) i (by rw [hCl]; exact hin)
        subst hA
        have hg : (L.map Int.ofNat).getD i 0 = ((L.getD i 0 : Nat) : Int) := by
          rw [List.getD_eq_getElem?_getD, List.getElem?_map, List.getD_eq_getElem?_getD, List.getElem?_eq_getElem hin]
          rfl
        rw [hg] at x0
        have hdr : L.drop i = L.getD i 0 :: L.drop (i + 1) := drop_getD L i hin
        have HG2 := Aside0.mk HG.out
        rw [hdr] at HG2
        generalize L.getD i 0 = a at x0 HG2
        have hgo := HG2.out
        unfold gaps at hgo
        have hbw : w.heap.size ≤ wr.heap.size := HB.out.size
        by_cases ha : ln ≤ a
        · have haz : (a : Int) ≥ (ln : Int) := by omega
          have haz2 : (ln : Int) ≤ (a : Int) := by omega
          rw [if_pos (by omega)] at hgo
          have HGO := Aside0.mk hgo
          clear hgo HG HG2 hg hdr
          have hwr : IntKind.i64.wrap ((i : Int) - ((i : Int) - 1 - (d : Int))) = ((d + 1 : Nat) : Int) := by
            rw [show (i : Int) - ((i : Int) - 1 - (d : Int)) = ((d + 1 : Nat) : Int) by omega]
            exact IntWalk.i64_in _ (by omega)
          go_wp2_with (first | ((with_reducible refine gate_builtin (b := .append) (xs := #[.tmp 34, .tmp 38]) rfl ?_); at_builtin; refine append_3 wr rfl _ _ rfl w.heap.size (.slice A1 k1 c1) out ((d + 1 : Nat) : Int) rfl rfl HR.out (by omega) (by omega) ?_; intro v1 w5 hR5 hg5; obtain ⟨A5, c5, rfl, _, _⟩ := hR5.reads; have HR5 := Aside0.mk hR5; have HB5 := Aside0.mk ((HB.out.alloc hbw (.cells #[.int .i64 ((d + 1 : Nat) : Int)] 3)).grown hg5 (by rw [World.size_alloc]; omega) (fun k hk => (own_at HR.out hk).1)); clear hR5 hg5))
          go_roundg (L.length - (i + 1))
          case measure => omega
          case rel =>
            refine ⟨i + 1, 0, A5, out.length + 1, c5, out ++ [((d + 1 : Nat) : Int)], rfl, congrArg (Value.int .i64) (by omega), congrArg (Value.int .i64) (by first | exact wrap_succ i (by omega) | omega), by omega, by omega, rfl, ?_, ⟨?_⟩, ⟨?_⟩, HB5⟩
            · rw [List.length_append, List.length_singleton]; omega
            · rw [← HGO.out, List.append_assoc]
              rfl
            · have := HR5.out
              rwa [List.length_append, List.length_singleton] at this
        · have haz : ¬ (a : Int) ≥ (ln : Int) := by omega
          have haz2 : ¬ (ln : Int) ≤ (a : Int) := by omega
          rw [if_neg (by omega)] at hgo
          have HGO := Aside0.mk hgo
          clear hgo HG HG2 hg hdr
          go_wp2
          go_roundg (L.length - (i + 1))
          case measure => omega
          case rel => exact ⟨i + 1, d + 1, A1, k1, c1, out, rfl, congrArg (Value.int .i64) (by omega), congrArg (Value.int .i64) (by first | exact wrap_succ i (by omega) | omega), by omega, by omega, rfl, by omega, HGO, HR, HB⟩
      · have hiz : ¬ (i : Int) < (L.length : Int) := by omega
        have hout : out = G := by
          have := HG.out
          rw [List.drop_eq_nil_of_le (by omega)] at this
          simpa [gaps] using this
        subst hout
        go_wp2
        go_ret
        exact ⟨_, rfl, HR.out, HB.out⟩
  · rw [spansP_big h32 (by omega)]
    generalize p.2 = L at h1 hc' hC hsm
    clear hC
    go_enter Try.func25, Try.ntmps25
    go_wp2
    go_loopg [5, 7] 1 (fun gk v5 v7 wr => v5 = .slice none 0 0 ∧ v7 = .int .i64 0 ∧ wr = w)
    case atStart => exact ⟨rfl, rfl, rfl⟩
    case round =>
      obtain ⟨rfl, rfl, hwr⟩ := hrel
      subst hwr
      by_cases h0 : (0 : Int) < (L.length : Int)
      · by_cases h2 : l ≥ 1
        · have h3 : ¬ l ≤ 32 := by omega
          go_wp2
          go_ret
          exact ⟨_, rfl, rowI_nil _ _, Below.refl _ _⟩
        · go_wp2
          go_ret
          exact ⟨_, rfl, rowI_nil _ _, Below.refl _ _⟩
      · go_wp2
        go_ret
        exact ⟨_, rfl, rowI_nil _ _, Below.refl _ _⟩
end Go.Proofs.Ytnlbdmiflihghaa.P
