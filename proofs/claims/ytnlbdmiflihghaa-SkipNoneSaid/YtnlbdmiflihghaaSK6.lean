/- Where an entry stands in the list, and whether it is there. Conditions: each theorem names its own. -/
import Derived.Test.YtnlbdmiflihghaaSK5
namespace Go.Proofs.Ytnlbdmiflihghaa.P
open Go.RowKit Go.Shelf Go.Proofs.YtnlbdmiflihghaaW.PrintWords Go.Proofs.YtnlbdmiflihghaaW.PrintLast Go.Proofs.YtnlbdmiflihghaaW.PrintMore Go.Proofs.Ytnlbdmiflihghaa.SK
attribute [local go_sem] Oper.semAt_some

theorem eq_entry (a b : En) (w : World) : (binOp .eql 28 (.agg #[.string a.1, .int .i64 a.2]) (.agg #[.string b.1, .int .i64 b.2])).run Try.prog w = .ok (.bool (eqE a b)) w := by
  have hu28 := Try.underlying28
  have hu9 := Try.underlying9
  have hu2 := Try.underlying2
  rw [run_eql_struct]
  have h : (Op.equalIn 10000 28 (.agg #[.string a.1, .int .i64 a.2]) (.agg #[.string b.1, .int .i64 b.2])).run Try.prog w = .ok (eqE a b) w := by
    refine eqA_of Try.underlying28 (by kernel_rfl) ?_
    refine eqf_cons (by rfl) (by kernel_rfl) (by kernel_rfl) (run_equalIn_string w _ _ _ _ hu9) ?_
    exact eqf_last (by rfl) (by kernel_rfl) (by kernel_rfl) (run_equalIn_int w _ _ .i64 _ _ _ hu2)
  rw [h]
  rfl
/-- Whether one is in a row. -/
def isin (e : En) (L : List En) : Bool := L.any fun a => eqE a e
theorem isin_iff {e : En} {L : List En} : isin e L = true ↔ e ∈ L := by
  unfold isin
  rw [List.any_eq_true]
  exact ⟨fun ⟨a, h1, h2⟩ => eqE_iff.mp h2 ▸ h1, fun h => ⟨e, h, eqE_iff.mpr rfl⟩⟩
/-- The next node behind place k. -/
theorem next_link {b : Nat} {bs : List Nat} {σ : St} (hX : Shape b bs σ) {k : Nat} (hk : k ≤ bs.length) (hH : 0 < σ.H) : ∃ s, σ.tow (nd b bs k) 0 = ((if k < bs.length then some (nd b bs (k + 1)) else none), s) := by
  have hl : 0 < lvl σ bs k := by
    rcases Nat.eq_zero_or_pos k with h | h
    · subst h; exact hH
    · rw [lvl_nd (b := b) h hk]
      have := (hX.lv1 _ (nd_mem' (b := b) h hk)).1
      omega
  obtain ⟨o, s, hn, ht⟩ := hX.tw k hk 0 hl
  refine ⟨s, ?_⟩
  rw [ht]
  congr 1
  have hV : ∀ q, 1 ≤ q → q ≤ bs.length → V (lvs σ bs) 0 q := fun q h1 h2 => V_lvl.mpr ⟨h1, by
    rw [lvl_nd (b := b) h1 h2]
    have := (hX.lv1 _ (nd_mem' (b := b) h1 h2)).1
    omega⟩
  cases o with
  | none =>
    rw [if_neg]
    · rfl
    · intro h
      exact hn.1 (k + 1) (by omega) (hV _ (by omega) (by omega))
  | some q =>
    obtain ⟨h1, h2, h3, h4⟩ := hn
    have hq := V_le h2
    rw [lvs_len] at hq
    have : q = k + 1 := by
      rcases Nat.lt_trichotomy q (k + 1) with h | h | h
      · omega
      · exact h
      · exact absurd (hV (k + 1) (by omega) (by omega)) (h3 (k + 1) (by omega) h)
    rw [if_pos (by omega), this]
    rfl
theorem H_pos {b : Nat} {bs : List Nat} {σ : St} (hX : Shape b bs σ) : σ.H = 0 ↔ bs = [] := by
  constructor
  · intro h
    cases bs with
    | nil => rfl
    | cons c r =>
      have := hX.lv1 c List.mem_cons_self
      omega
  · rintro rfl
    rcases hX.Hex with h | ⟨c, hc, _⟩
    · exact h
    · cases hc
theorem mem_at {σ : St} {b : Nat} {bs : List Nat} (e : En) (hs : Srt (bs.map σ.E)) (k : Nat) (hk : rank e (bs.map σ.E) = k) : isin e (bs.map σ.E) = if k < bs.length then eqE (σ.E (nd b bs (k + 1))) e else false := by
  subst hk
  have hm := mem_rank e (bs.map σ.E) hs
  by_cases h : rank e (bs.map σ.E) < bs.length
  · rw [if_pos h]
    have hl : rank e (bs.map σ.E) < (bs.map σ.E).length := by rw [List.length_map]; exact h
    have hn : (bs.map σ.E)[rank e (bs.map σ.E)]'hl = σ.E (nd b bs (rank e (bs.map σ.E) + 1)) := by
      rw [List.getElem_map]
      unfold nd
      rw [if_neg (by omega), List.getD_eq_getElem?_getD, List.getElem?_eq_getElem (by omega)]
      rfl
    rw [Bool.eq_iff_iff, isin_iff, hm, eqE_iff, ← hn]
    exact ⟨fun ⟨_, h2⟩ => h2, fun h2 => ⟨hl, h2⟩⟩
  · rw [if_neg h]
    refine Bool.eq_false_iff.mpr (fun hc => ?_)
    obtain ⟨h2, _⟩ := hm.mp (isin_iff.mp hc)
    rw [List.length_map] at h2
    exact h h2
set_option maxHeartbeats 8000000 in
set_option maxRecDepth 100000 in
theorem seek_calls (b : Nat) (bs : List Nat) (σ : St) (e : En) (w : World) (hS : Sk w b bs σ) (hX : Shape b bs σ) (hs : Srt (bs.map σ.E)) :
    Calls Try.prog 14 #[.pointer (some ⟨b, 0, none⟩), .agg #[.string e.1, .int .i64 e.2]] w fun r w' => r = .returned (.tuple #[.int .i64 (rank e (bs.map σ.E) : Nat), .bool (isin e (bs.map σ.E))]) ∧ Below w.heap.size w w' := by
  have HS := Aside0.mk hS
  have HX := Aside0.mk hX
  have HO := Aside0.mk hs
  have hk : rank e (bs.map σ.E) ≤ bs.length := by have := rank_le e (bs.map σ.E); rwa [List.length_map] at this
  have hm := fun k h => mem_at (b := b) e hs k h
  have hH := hS.H_
  have hbl := hS.head.lt
  generalize hke : rank e (bs.map σ.E) = k at hk
  replace hm := hm k hke
  generalize isin e (bs.map σ.E) = r0 at hm
  have HM := Aside0.mk hm
  have HKE := Aside0.mk hke
  clear hke hS hX hs hm
  go_enter Try.func14, Try.ntmps14
  by_cases h0 : σ.H = 0
  · have hbs := (H_pos HX.out).mp h0
    rw [h0] at hH
    replace hH : w.cell? ⟨b, 69, none⟩ = some (.int .i64 0) := hH
    go_wp2
    go_ret2
    have := HM.out
    subst hbs
    obtain rfl : k = 0 := by simpa using hk
    refine ⟨?_, below_alloc (Below.refl _ _) _⟩
    rw [this]
    rfl
  · have hH0 : (((σ.H : Nat) : Int) == 0) = false := by simp; omega
    have hH1 : ¬ ((σ.H : Nat) : Int) = 0 := by omega
    go_wp2_with fail
    have hb1 : Below w.heap.size w (w.alloc (.cells #[.string e.1, .int .i64 e.2] 28)) := below_alloc (Below.refl _ _) _
    have hx0 : (w.alloc (.cells #[.string e.1, .int .i64 e.2] 28)).cell? ⟨w.heap.size, 0, none⟩ = some (.string e.1) := by simp
    have hx1 : (w.alloc (.cells #[.string e.1, .int .i64 e.2] 28)).cell? ⟨w.heap.size, 1, none⟩ = some (.int .i64 e.2) := by simp
    have hlt : w.heap.size < (w.alloc (.cells #[.string e.1, .int .i64 e.2] 28)).heap.size := by simp
    generalize World.alloc w _ = w1 at hb1 hx0 hx1 hlt ⊢
    have ht := to_calls b bs σ e w1 (HS.out.below hb1) HX.out HO.out
    rw [HKE.out] at ht
    refine ht.mono ?_
    rintro r w2 ⟨rfl, hb2⟩
    have hb2' : Below w.heap.size w w2 := hb1.trans (hb2.mono hb1.size)
    replace hx0 := (hb2.cell (p := ⟨w.heap.size, 0, none⟩) hlt).trans hx0
    replace hx1 := (hb2.cell (p := ⟨w.heap.size, 1, none⟩) hlt).trans hx1
    have hlt2 : w.heap.size < w2.heap.size := Nat.lt_of_lt_of_le hlt hb2.size
    have l1 := row32_len (pathN b bs σ k)
    have l2 := row32_len (pathP bs σ k)
    obtain ⟨s1, s2, hW⟩ := rows_new w w2 w.heap.size hb2'.size hb2' (pathN b bs σ k) (pathP bs σ k) one_pathN one_pathP
    clear ht hb1 hb2 hlt hb2'
    go_upto_region 4 with fail
    generalize hw3 : World.setCells _ _ 0 (row32 (pathP bs σ k)) = w3
    obtain ⟨k2, k3, hb3, hb4⟩ := hW w3 hw3
    replace hx0 := (hb3.cell (p := ⟨w.heap.size, 0, none⟩) hlt2).trans hx0
    replace hx1 := (hb3.cell (p := ⟨w.heap.size, 1, none⟩) hlt2).trans hx1
    clear hw3 hW s1 s2 l1 l2
    have hn := k2.cell (show 0 < 32 by omega)
    have hp := k3.cell (show 0 < 32 by omega)
    have hpos : 0 < σ.H := by omega
    unfold pathN at hn
    unfold pathP at hp
    rw [if_pos hpos, prev0 HX.out hk] at hn hp
    replace hn : w3.cell? ⟨w2.heap.size, 0, none⟩ = some (.pointer (some ⟨nd b bs k, 0, none⟩)) := hn
    obtain ⟨s, hs⟩ := next_link HX.out hk hpos
    have hS3 := HS.out.below hb4
    have hto := hS3.to_ (nd_mem (b := b) hk) (show 0 < 32 by omega)
    rw [hs] at hto
    have HB4 := Aside0.mk hb4
    by_cases hkl : k < bs.length
    · rw [if_pos hkl] at hto
      replace hto : w3.cell? ⟨nd b bs k, 2, none⟩ = some (.pointer (some ⟨nd b bs (k + 1), 0, none⟩)) := hto
      have hm := nd_mem' (b := b) (show 1 ≤ k + 1 by omega) (show k + 1 ≤ bs.length by omega)
      have hme := hS3.member_ hm
      have hsc := hS3.score_ hm
      have hR := HM.out
      rw [if_pos hkl] at hR
      have HR := Aside0.mk hR
      have hq := eq_entry (σ.E (nd b bs (k + 1))) e
      generalize nd b bs (k + 1) = c' at hto hme hsc HR hq
      generalize nd b bs k = c at hn hto
      clear hR hm hs hb3 hb4 hS3 k2 k3
      go_wp2
      go_quiet (fail)
      go_wp2
      go_ret2
      rw [HR.out]
      exact ⟨rfl, pw_below_drewN HB4.out _⟩
    · rw [if_neg hkl] at hto
      replace hto : w3.cell? ⟨nd b bs k, 2, none⟩ = some (.pointer none) := hto
      have hR := HM.out
      rw [if_neg hkl] at hR
      have HR := Aside0.mk hR
      generalize nd b bs k = c at hn hto
      clear hR hs hb3 hb4 hS3 k2 k3
      go_wp2
      go_quiet (fail)
      go_wp2
      go_ret2
      rw [HR.out]
      exact ⟨rfl, pw_below_drewN HB4.out _⟩
end Go.Proofs.Ytnlbdmiflihghaa.P
