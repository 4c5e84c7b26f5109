/- What the two tests of a path tell: an entry's, a place's. Conditions: each theorem names its own. -/
import Derived.Test.YtnlbdmiflihghaaSKR
import Derived.Test.YtnlbdmiflihghaaPureOrd
import Derived.Test.YtnlbdmiflihghaaSK3
namespace Go.Proofs.Ytnlbdmiflihghaa.P
open Go.RowKit Go.Shelf Go.Proofs.YtnlbdmiflihghaaW.PrintWords Go.Proofs.YtnlbdmiflihghaaW.PrintLast Go.Proofs.YtnlbdmiflihghaaW.PrintMore Go.Proofs.Ytnlbdmiflihghaa.SK
attribute [local go_sem] Oper.semAt_some

theorem until1_calls (B x : Nat) (k q : Nat) (W : World) (hB : W.cell? ⟨B, 0, none⟩ = some (.int .i64 (k : Int))) :
    Calls Try.prog 46 #[.pointer (some ⟨x, 0, none⟩), .int .i64 (q : Int), .pointer (some ⟨B, 0, none⟩)] W fun e W' => e = .returned (.bool (decide (q ≤ k))) ∧ Below W.heap.size W W' := by
  go_enter Try.func46, Try.ntmps46
  go_wp2
  go_ret
  refine ⟨?_, Below.refl _ _⟩
  congr 2
set_option maxHeartbeats 8000000 in
set_option maxRecDepth 100000 in
theorem to1_calls (e xe : En) (B x : Nat) (q : Nat) (W : World) (h0 : W.cell? ⟨x, 0, none⟩ = some (.string xe.1)) (h1 : W.cell? ⟨x, 1, none⟩ = some (.int .i64 xe.2)) (hB0 : W.cell? ⟨B, 0, none⟩ = some (.string e.1)) (hB1 : W.cell? ⟨B, 1, none⟩ = some (.int .i64 e.2)) :
    Calls Try.prog 43 #[.pointer (some ⟨x, 0, none⟩), .int .i64 (q : Int), .pointer (some ⟨B, 0, none⟩)] W fun r W' => r = .returned (.bool (ltE xe e)) ∧ Below W.heap.size W W' := by
  have hc := bound_Less.calls 5 xe.1 xe.2 e.1 e.2 _ W.drew (ahead_own _ _ _ _ _ (by omega))
  go_enter Try.func43, Try.ntmps43
  go_upto_region 1 with fail
  go_still_tail 5, (by kernel_rfl)
  change wpList _ _ _ _ _ W.drew
  go_wp2_with fail
  refine hc.mono ?_
  rintro r w1 ⟨rfl, hb⟩
  go_wp2
  go_ret
  exact ⟨rfl, (Below.refl _ _).drew.trans hb⟩
end Go.Proofs.Ytnlbdmiflihghaa.P

/- The path to an entry, the path to a place. Conditions: each theorem names its own. -/
namespace Go.Proofs.Ytnlbdmiflihghaa.P
open Go.RowKit Go.Shelf Go.Proofs.YtnlbdmiflihghaaW.PrintWords Go.Proofs.YtnlbdmiflihghaaW.PrintLast Go.Proofs.YtnlbdmiflihghaaW.PrintMore Go.Proofs.Ytnlbdmiflihghaa.SK
attribute [local go_sem] Oper.semAt_some

/-- Many cells of a block stored. -/
theorem Bk.setCells {B : Nat} {T : TypeId} {N : Nat} : ∀ (vs : List Value) (o : Nat) {W : World} {f : Nat → Value}, Bk W B T N f → Bk (W.setCells B o vs) B T N (fun i => if o ≤ i ∧ i < o + vs.length then vs.getD (i - o) undef else f i)
  | [], o, W, f, h => h.ext (fun j _ => by rw [if_neg (by simp)])
  | v :: r, o, W, f, h => by
    have := Bk.setCells r (o + 1) (h.set o v)
    refine Bk.ext (W := (W.setCell ⟨B, o, none⟩ v).setCells B (o + 1) r) this (fun j _ => ?_)
    simp only [List.length_cons]
    by_cases h1 : j = o
    · subst h1
      rw [if_neg (by omega), if_pos rfl, if_pos (by omega)]
      simp
    · by_cases h2 : o + 1 ≤ j ∧ j < o + 1 + r.length
      · rw [if_pos h2, if_pos (by omega)]
        obtain ⟨m, rfl⟩ : ∃ m, j = o + 1 + m := ⟨j - (o + 1), by omega⟩
        rw [show o + 1 + m - (o + 1) = m by omega, show o + 1 + m - o = m + 1 by omega]
        simp
      · rw [if_neg h2, if_neg h1, if_neg (by omega)]
theorem Bk.row {W : World} {B : Nat} {T : TypeId} {f g : Nat → Value} (h : Bk W B T 32 g) : Bk (W.setCells B 0 (row32 f)) B T 32 f := by
  refine (h.setCells (row32 f) 0).ext (fun j hj => ?_)
  rw [if_pos (by rw [row32_len]; omega)]
  unfold row32
  rw [Nat.sub_zero, List.getD_eq_getElem?_getD, List.getElem?_map, List.getElem?_range hj]
  rfl
theorem setCells_apart {B k : Nat} (h : k ≠ B) : ∀ (vs : List Value) (o : Nat) (W : World), (W.setCells B o vs).heap[k]? = W.heap[k]?
  | [], _, _ => rfl
  | v :: r, o, W => (setCells_apart h r (o + 1) (W.setCell ⟨B, o, none⟩ v)).trans (Below.heap_setCell W ⟨B, o, none⟩ v k h)
/-- A row of 32 values stored into a block. -/
theorem store_row {W : World} {B : Nat} {T : TypeId} {f g : Nat → Value} (hB : Bk W B T 32 g) (h1 : ∀ v ∈ row32 f, v.oneCell' = true) : (storeCells ⟨B, 0, none⟩ (row32 f)).run Try.prog W = .ok () (W.setCells B 0 (row32 f)) := by
  have := run_storeCells_cells (P := Try.prog) B 0 (row32 f) 0 W (fun j hj => by rw [row32_len] at hj; rw [hB.cell (by omega)]; rfl) (fun j hj => hB.frozen _) h1
  exact this
theorem prev0 {σ : St} {b : Nat} {bs : List Nat} (hX : Shape b bs σ) {k : Nat} (hk : k ≤ bs.length) : prevP (lvs σ bs) 0 k = k := by
  refine (prevP_spec (lvs σ bs) 0 k).unique ⟨Nat.le_refl _, ?_, fun r h1 h2 => by omega⟩
  rcases Nat.eq_zero_or_pos k with h | h
  · exact .inl h
  · refine .inr (V_lvl.mpr ⟨h, ?_⟩)
    rw [lvl_nd (b := b) h hk]
    have := (hX.lv1 _ (nd_mem' (b := b) h hk)).1
    omega
theorem three_new (w : World) (C0 : Array Value) (T0 : TypeId) (N0 P0 : Array Value) (W : World) (hW : ((w.alloc (.cells C0 T0)).alloc (.cells N0 68)).alloc (.cells P0 69) = W) (hN : N0 = Array.replicate 32 (.pointer none)) (hP : P0 = Array.replicate 32 (.int .i64 0)) :
    W.heap[w.heap.size]? = some (.cells C0 T0 (0, 0)) ∧ Bk W (w.heap.size + 1) 68 32 (fun _ => .pointer none) ∧ Bk W (w.heap.size + 1 + 1) 69 32 (fun _ => .int .i64 0) ∧ Below w.heap.size w W := by
  subst hW
  have a2 := Bk.fill (W := w.alloc (.cells C0 T0)) (T := 68) N0 hN
  have a3 := Bk.fill (W := (w.alloc (.cells C0 T0)).alloc (.cells N0 68)) (T := 69) P0 hP
  have a1 : (w.alloc (.cells C0 T0)).heap[w.heap.size]? = some (.cells C0 T0 (0, 0)) := World.alloc_heap_new w _
  simp only [World.size_alloc] at a2 a3
  refine ⟨?_, a2.alloc _, a3, below_alloc (below_alloc (below_alloc (Below.refl _ _) _) _) _⟩
  have e1 := ((Below.refl (w.alloc (.cells C0 T0)).heap.size (w.alloc (.cells C0 T0))).alloc (Nat.le_refl _) (.cells N0 68)).block w.heap.size (by simp)
  have e2 := ((Below.refl ((w.alloc (.cells C0 T0)).alloc (.cells N0 68)).heap.size ((w.alloc (.cells C0 T0)).alloc (.cells N0 68))).alloc (Nat.le_refl _) (.cells P0 69)).block w.heap.size (by simp; omega)
  rw [e2, e1, a1]
theorem cell_at {W : World} {B : Nat} {C : Array Value} {T : TypeId} (h : W.heap[B]? = some (.cells C T (0, 0))) {j : Nat} {v : Value} (hj : C[j]? = some v) : W.cell? ⟨B, j, none⟩ = some v := by simp [World.cell?, h, hj]
set_option maxHeartbeats 8000000 in
set_option maxRecDepth 100000 in
theorem until_calls (b : Nat) (bs : List Nat) (σ : St) (k : Nat) (hk : k ≤ bs.length) (w : World) (hS : Sk w b bs σ) (hX : Shape b bs σ) :
    Calls Try.prog 38 #[.pointer (some ⟨b, 0, none⟩), .int .i64 (k : Int)] w fun e w' => e = .returned (.tuple #[.agg (row32 (pathN b bs σ k)).toArray, .agg (row32 (pathP bs σ k)).toArray]) ∧ Below w.heap.size w w' := by
  have HS := Aside0.mk hS
  have HX := Aside0.mk hX
  clear hS hX
  go_enter Try.func38, Try.ntmps38
  go_wp2_with fail
  generalize hW3 : World.alloc _ (.cells _ 69) = W3
  obtain ⟨h1, h2, h3, hb3⟩ := three_new w _ _ _ _ W3 hW3 rfl rfl
  clear hW3
  have hlt : w.heap.size < W3.heap.size := (Array.getElem?_eq_some_iff.1 h1).1
  refine (path_calls 46 #[.pointer (some ⟨w.heap.size, 0, none⟩)] (fun _ _ => rfl) b bs σ k hk W3 (HS.out.below hb3) HX.out (fun q _ _ W hW => until1_calls w.heap.size (nd b bs q) k q W ((hW.cell (p := ⟨w.heap.size, 0, none⟩) hlt).trans (cell_at h1 rfl)))).mono ?_
  rintro e w1 ⟨rfl, hb⟩
  have H2 := h2.below hb
  have H3 := h3.below hb
  have HB := Aside0.mk (hb3.trans (hb.mono hb3.size))
  clear h1 h2 h3 hb3 hb hlt
  have l1 := row32_len (pathN b bs σ k)
  have l2 := row32_len (pathP bs σ k)
  have s1 := store_row (f := pathN b bs σ k) H2 one_pathN
  have k2 := H2.row (f := pathN b bs σ k)
  have H3' := H3.move (setCells_apart (B := w.heap.size + 1) (by omega) (row32 (pathN b bs σ k)) 0 w1)
  have s2 := store_row (f := pathP bs σ k) H3' one_pathP
  have k3 := H3'.row (f := pathP bs σ k)
  have k2' := k2.move (setCells_apart (B := w.heap.size + 1 + 1) (by omega) (row32 (pathP bs σ k)) 0 _)
  have HB3 := below_cells (w.heap.size + 1 + 1) (by omega) (row32 (pathP bs σ k)) 0 (below_cells (w.heap.size + 1) (by omega) (row32 (pathN b bs σ k)) 0 HB.out)
  have K2 := Aside0.mk k2'
  have K3 := Aside0.mk k3
  have HB4 := Aside0.mk HB3
  clear k2 k3 k2' HB3 HB H2 H3 H3'
  go_wp2
  exact bodyPost_ret (results_cells (by rfl) (by rfl) (by rfl) (loadVar68 (load_range K2.out.range)) (loadVar69 (load_range K3.out.range))) rfl ⟨rfl, HB4.out⟩
/-- The path to an entry: up to those that stand ahead. -/
theorem tells_to {w : World} {b : Nat} {bs : List Nat} {σ : St} (e : En) (hS : Sk w b bs σ) (hs : Srt (bs.map σ.E)) {B : Nat} (h0 : w.cell? ⟨B, 0, none⟩ = some (.string e.1)) (h1 : w.cell? ⟨B, 1, none⟩ = some (.int .i64 e.2)) (hB : B < w.heap.size) :
    Tells 43 #[.pointer (some ⟨B, 0, none⟩)] b bs (rank e (bs.map σ.E)) w := by
  intro q hq1 hq2 W hW
  have hm := nd_mem' (b := b) hq1 hq2
  have hSW := hS.below hW
  have hr := rank_lt e (bs.map σ.E) hs (q - 1) (by rw [List.length_map]; omega)
  have hn : (bs.map σ.E)[q - 1]'(by rw [List.length_map]; omega) = σ.E (nd b bs q) := by
    rw [List.getElem_map]
    unfold nd
    rw [if_neg (by omega), List.getD_eq_getElem?_getD, List.getElem?_eq_getElem (by omega)]
    rfl
  rw [hn] at hr
  have hd : decide (q ≤ rank e (bs.map σ.E)) = ltE (σ.E (nd b bs q)) e := by
    rw [hr]
    exact decide_eq_decide.mpr (by omega)
  rw [hd]
  exact to1_calls e (σ.E (nd b bs q)) B (nd b bs q) q W (hSW.member_ hm) (hSW.score_ hm) ((hW.cell (p := ⟨B, 0, none⟩) hB).trans h0) ((hW.cell (p := ⟨B, 1, none⟩) hB).trans h1)
set_option maxHeartbeats 8000000 in
set_option maxRecDepth 100000 in
theorem to_calls (b : Nat) (bs : List Nat) (σ : St) (e : En) (w : World) (hS : Sk w b bs σ) (hX : Shape b bs σ) (hs : Srt (bs.map σ.E)) :
    Calls Try.prog 31 #[.pointer (some ⟨b, 0, none⟩), .agg #[.string e.1, .int .i64 e.2]] w fun r w' => r = .returned (.tuple #[.agg (row32 (pathN b bs σ (rank e (bs.map σ.E)))).toArray, .agg (row32 (pathP bs σ (rank e (bs.map σ.E)))).toArray]) ∧ Below w.heap.size w w' := by
  have HS := Aside0.mk hS
  have HX := Aside0.mk hX
  have HO := Aside0.mk hs
  clear hS hX hs
  have hk : rank e (bs.map σ.E) ≤ bs.length := by have := rank_le e (bs.map σ.E); rwa [List.length_map] at this
  generalize hke : rank e (bs.map σ.E) = k at hk
  have HKE := Aside0.mk hke
  clear hke
  go_enter Try.func31, Try.ntmps31
  go_wp2_with fail
  generalize hW3 : World.alloc _ (.cells _ 69) = W3
  obtain ⟨h1, h2, h3, hb3⟩ := three_new w _ _ _ _ W3 hW3 rfl rfl
  clear hW3
  have hlt : w.heap.size < W3.heap.size := (Array.getElem?_eq_some_iff.1 h1).1
  refine (path_calls 43 #[.pointer (some ⟨w.heap.size, 0, none⟩)] (fun _ _ => rfl) b bs σ k hk W3 (HS.out.below hb3) HX.out (HKE.out ▸ tells_to e (HS.out.below hb3) HO.out (cell_at h1 rfl) (cell_at h1 rfl) hlt)).mono ?_
  rintro r w1 ⟨rfl, hb⟩
  have H2 := h2.below hb
  have H3 := h3.below hb
  have HB := Aside0.mk (hb3.trans (hb.mono hb3.size))
  clear h1 h2 h3 hb3 hb hlt
  have l1 := row32_len (pathN b bs σ k)
  have l2 := row32_len (pathP bs σ k)
  have s1 := store_row (f := pathN b bs σ k) H2 one_pathN
  have k2 := H2.row (f := pathN b bs σ k)
  have H3' := H3.move (setCells_apart (B := w.heap.size + 1) (by omega) (row32 (pathN b bs σ k)) 0 w1)
  have s2 := store_row (f := pathP bs σ k) H3' one_pathP
  have k3 := H3'.row (f := pathP bs σ k)
  have k2' := k2.move (setCells_apart (B := w.heap.size + 1 + 1) (by omega) (row32 (pathP bs σ k)) 0 _)
  have HB3 := below_cells (w.heap.size + 1 + 1) (by omega) (row32 (pathP bs σ k)) 0 (below_cells (w.heap.size + 1) (by omega) (row32 (pathN b bs σ k)) 0 HB.out)
  have K2 := Aside0.mk k2'
  have K3 := Aside0.mk k3
  have HB4 := Aside0.mk HB3
  clear k2 k3 k2' HB3 HB H2 H3 H3'
  go_wp2
  exact bodyPost_ret (results_cells (by rfl) (by rfl) (by rfl) (loadVar68 (load_range K2.out.range)) (loadVar69 (load_range K3.out.range))) rfl ⟨rfl, HB4.out⟩
abbrev N32 : Array Value := #[.pointer none, .pointer none, .pointer none, .pointer none, .pointer none, .pointer none, .pointer none, .pointer none, .pointer none, .pointer none, .pointer none, .pointer none, .pointer none, .pointer none, .pointer none, .pointer none, .pointer none, .pointer none, .pointer none, .pointer none, .pointer none, .pointer none, .pointer none, .pointer none, .pointer none, .pointer none, .pointer none, .pointer none, .pointer none, .pointer none, .pointer none, .pointer none]
abbrev P32 : Array Value := #[.int .i64 0, .int .i64 0, .int .i64 0, .int .i64 0, .int .i64 0, .int .i64 0, .int .i64 0, .int .i64 0, .int .i64 0, .int .i64 0, .int .i64 0, .int .i64 0, .int .i64 0, .int .i64 0, .int .i64 0, .int .i64 0, .int .i64 0, .int .i64 0, .int .i64 0, .int .i64 0, .int .i64 0, .int .i64 0, .int .i64 0, .int .i64 0, .int .i64 0, .int .i64 0, .int .i64 0, .int .i64 0, .int .i64 0, .int .i64 0, .int .i64 0, .int .i64 0]
/-- Two rows laid anew and stored into: what holds behind it. -/
theorem rows_new (w0 w : World) (m : Nat) (hm : m ≤ w.heap.size) (hb0 : Below m w0 w) (f g : Nat → Value) (h1 : ∀ v ∈ row32 f, v.oneCell' = true) (h2 : ∀ v ∈ row32 g, v.oneCell' = true) :
    (storeCells ⟨w.heap.size, 0, none⟩ (row32 f)).run Try.prog ((w.alloc (.cells N32 68)).alloc (.cells P32 69)) = .ok () (((w.alloc (.cells N32 68)).alloc (.cells P32 69)).setCells w.heap.size 0 (row32 f)) ∧
    (storeCells ⟨w.heap.size + 1, 0, none⟩ (row32 g)).run Try.prog (((w.alloc (.cells N32 68)).alloc (.cells P32 69)).setCells w.heap.size 0 (row32 f)) = .ok () ((((w.alloc (.cells N32 68)).alloc (.cells P32 69)).setCells w.heap.size 0 (row32 f)).setCells (w.heap.size + 1) 0 (row32 g)) ∧
    (∀ w3, (((w.alloc (.cells N32 68)).alloc (.cells P32 69)).setCells w.heap.size 0 (row32 f)).setCells (w.heap.size + 1) 0 (row32 g) = w3 → Bk w3 w.heap.size 68 32 f ∧ Bk w3 (w.heap.size + 1) 69 32 g ∧ Below w.heap.size w w3 ∧ Below m w0 w3) := by
  have a2 := (Bk.fill (W := w) (T := 68) (N := 32) (v := .pointer none) N32 rfl).alloc (.cells P32 69)
  have a3 := Bk.fill (W := w.alloc (.cells N32 68)) (T := 69) (N := 32) (v := .int .i64 0) P32 rfl
  simp only [World.size_alloc] at a3
  have a3' := a3.move (setCells_apart (B := w.heap.size) (by omega) (row32 f) 0 _)
  refine ⟨store_row a2 h1, store_row a3' h2, ?_⟩
  rintro w3 rfl
  refine ⟨(a2.row (f := f)).move (setCells_apart (by omega) _ _ _), a3'.row, ?_, ?_⟩
  · exact below_cells _ (by omega) _ _ (below_cells _ (Nat.le_refl _) _ _ (below_alloc (below_alloc (Below.refl _ _) _) _))
  · exact below_cells _ (by omega) _ _ (below_cells _ hm _ _ ((hb0.alloc hm _).alloc (by rw [World.size_alloc]; omega) _))
end Go.Proofs.Ytnlbdmiflihghaa.P

/- Where an entry stands in the list, and whether it is there. Conditions: each theorem names its own. -/
namespace Go.Proofs.Ytnlbdmiflihghaa.P
open Go.RowKit Go.Shelf Go.Proofs.YtnlbdmiflihghaaW.PrintWords Go.Proofs.YtnlbdmiflihghaaW.PrintLast Go.Proofs.YtnlbdmiflihghaaW.PrintMore Go.Proofs.Ytnlbdmiflihghaa.SK
attribute [local go_sem] Oper.semAt_some

theorem eq_entry (a b : En) (w : World) : (binOp .eql 28 (.agg #[.string a.1, .int .i64 a.2]) (.agg #[.string b.1, .int .i64 b.2])).run Try.prog w = .ok (.bool (eqE a b)) w := by
  have hu28 := Try.underlying28
  have hu9 := Try.underlying9
  have hu2 := Try.underlying2
  rw [run_eql_struct]
  have h : (Op.equalIn 10000 28 (.agg #[.string a.1, .int .i64 a.2]) (.agg #[.string b.1, .int .i64 b.2])).run Try.prog w = .ok (eqE a b) w := by
    refine eqA_of Try.underlying28 (by kernel_rfl) ?_
    refine eqf_cons (by rfl) (by kernel_rfl) (by kernel_rfl) (run_equalIn_string w _ _ _ _ hu9) ?_
    exact eqf_last (by rfl) (by kernel_rfl) (by kernel_rfl) (run_equalIn_int w _ _ .i64 _ _ _ hu2)
  rw [h]
  rfl
/-- Whether one is in a row. -/
def isin (e : En) (L : List En) : Bool := L.any fun a => eqE a e
theorem isin_iff {e : En} {L : List En} : isin e L = true ↔ e ∈ L := by
  unfold isin
  rw [List.any_eq_true]
  exact ⟨fun ⟨a, h1, h2⟩ => eqE_iff.mp h2 ▸ h1, fun h => ⟨e, h, eqE_iff.mpr rfl⟩⟩
/-- The next node behind place k. -/
theorem next_link {b : Nat} {bs : List Nat} {σ : St} (hX : Shape b bs σ) {k : Nat} (hk : k ≤ bs.length) (hH : 0 < σ.H) : ∃ s, σ.tow (nd b bs k) 0 = ((if k < bs.length then some (nd b bs (k + 1)) else none), s) := by
  have hl : 0 < lvl σ bs k := by
    rcases Nat.eq_zero_or_pos k with h | h
    · subst h; exact hH
    · rw [lvl_nd (b := b) h hk]
      have := (hX.lv1 _ (nd_mem' (b := b) h hk)).1
      omega
  obtain ⟨o, s, hn, ht⟩ := hX.tw k hk 0 hl
  refine ⟨s, ?_⟩
  rw [ht]
  congr 1
  have hV : ∀ q, 1 ≤ q → q ≤ bs.length → V (lvs σ bs) 0 q := fun q h1 h2 => V_lvl.mpr ⟨h1, by
    rw [lvl_nd (b := b) h1 h2]
    have := (hX.lv1 _ (nd_mem' (b := b) h1 h2)).1
    omega⟩
  cases o with
  | none =>
    rw [if_neg]
    · rfl
    · intro h
      exact hn.1 (k + 1) (by omega) (hV _ (by omega) (by omega))
  | some q =>
    obtain ⟨h1, h2, h3, h4⟩ := hn
    have hq := V_le h2
    rw [lvs_len] at hq
    have : q = k + 1 := by
      rcases Nat.lt_trichotomy q (k + 1) with h | h | h
      · omega
      · exact h
      · exact absurd (hV (k + 1) (by omega) (by omega)) (h3 (k + 1) (by omega) h)
    rw [if_pos (by omega), this]
    rfl
theorem H_pos {b : Nat} {bs : List Nat} {σ : St} (hX : Shape b bs σ) : σ.H = 0 ↔ bs = [] := by
  constructor
  · intro h
    cases bs with
    | nil => rfl
    | cons c r =>
      have := hX.lv1 c List.mem_cons_self
      omega
  · rintro rfl
    rcases hX.Hex with h | ⟨c, hc, _⟩
    · exact h
    · cases hc
theorem mem_at {σ : St} {b : Nat} {bs : List Nat} (e : En) (hs : Srt (bs.map σ.E)) (k : Nat) (hk : rank e (bs.map σ.E) = k) : isin e (bs.map σ.E) = if k < bs.length then eqE (σ.E (nd b bs (k + 1))) e else false := by
  subst hk
  have hm := mem_rank e (bs.map σ.E) hs
  by_cases h : rank e (bs.map σ.E) < bs.length
  · rw [if_pos h]
    have hl : rank e (bs.map σ.E) < (bs.map σ.E).length := by rw [List.length_map]; exact h
    have hn : (bs.map σ.E)[rank e (bs.map σ.E)]'hl = σ.E (nd b bs (rank e (bs.map σ.E) + 1)) := by
      rw [List.getElem_map]
      unfold nd
      rw [if_neg (by omega), List.getD_eq_getElem?_getD, List.getElem?_eq_getElem (by omega)]
      rfl
    rw [Bool.eq_iff_iff, isin_iff, hm, eqE_iff, ← hn]
    exact ⟨fun ⟨_, h2⟩ => h2, fun h2 => ⟨hl, h2⟩⟩
  · rw [if_neg h]
    refine Bool.eq_false_iff.mpr (fun hc => ?_)
    obtain ⟨h2, _⟩ := hm.mp (isin_iff.mp hc)
    rw [List.length_map] at h2
    exact h h2
set_option maxHeartbeats 8000000 in
set_option maxRecDepth 100000 in
theorem seek_calls (b : Nat) (bs : List Nat) (σ : St) (e : En) (w : World) (hS : Sk w b bs σ) (hX : Shape b bs σ) (hs : Srt (bs.map σ.E)) :
    Calls Try.prog 14 #[.pointer (some ⟨b, 0, none⟩), .agg #[.string e.1, .int .i64 e.2]] w fun r w' => r = .returned (.tuple #[.int .i64 (rank e (bs.map σ.E) : Nat), .bool (isin e (bs.map σ.E))]) ∧ Below w.heap.size w w' := by
  have HS := Aside0.mk hS
  have HX := Aside0.mk hX
  have HO := Aside0.mk hs
  have hk : rank e (bs.map σ.E) ≤ bs.length := by have := rank_le e (bs.map σ.E); rwa [List.length_map] at this
  have hm := fun k h => mem_at (b := b) e hs k h
  have hH := hS.H_
  have hbl := hS.head.lt
  generalize hke : rank e (bs.map σ.E) = k at hk
  replace hm := hm k hke
  generalize isin e (bs.map σ.E) = r0 at hm
  have HM := Aside0.mk hm
  have HKE := Aside0.mk hke
  clear hke hS hX hs hm
  go_enter Try.func14, Try.ntmps14
  by_cases h0 : σ.H = 0
  · have hbs := (H_pos HX.out).mp h0
    rw [h0] at hH
    replace hH : w.cell? ⟨b, 69, none⟩ = some (.int .i64 0) := hH
    go_wp2
    go_ret2
    have := HM.out
    subst hbs
    obtain rfl : k = 0 := by simpa using hk
    refine ⟨?_, below_alloc (Below.refl _ _) _⟩
    rw [this]
    rfl
  · have hH0 : (((σ.H : Nat) : Int) == 0) = false := by simp; omega
    have hH1 : ¬ ((σ.H : Nat) : Int) = 0 := by omega
    go_wp2_with fail
    have hb1 : Below w.heap.size w (w.alloc (.cells #[.string e.1, .int .i64 e.2] 28)) := below_alloc (Below.refl _ _) _
    have hx0 : (w.alloc (.cells #[.string e.1, .int .i64 e.2] 28)).cell? ⟨w.heap.size, 0, none⟩ = some (.string e.1) := by simp
    have hx1 : (w.alloc (.cells #[.string e.1, .int .i64 e.2] 28)).cell? ⟨w.heap.size, 1, none⟩ = some (.int .i64 e.2) := by simp
    have hlt : w.heap.size < (w.alloc (.cells #[.string e.1, .int .i64 e.2] 28)).heap.size := by simp
    generalize World.alloc w _ = w1 at hb1 hx0 hx1 hlt ⊢
    have ht := to_calls b bs σ e w1 (HS.out.below hb1) HX.out HO.out
    rw [HKE.out] at ht
    refine ht.mono ?_
    rintro r w2 ⟨rfl, hb2⟩
    have hb2' : Below w.heap.size w w2 := hb1.trans (hb2.mono hb1.size)
    replace hx0 := (hb2.cell (p := ⟨w.heap.size, 0, none⟩) hlt).trans hx0
    replace hx1 := (hb2.cell (p := ⟨w.heap.size, 1, none⟩) hlt).trans hx1
    have hlt2 : w.heap.size < w2.heap.size := Nat.lt_of_lt_of_le hlt hb2.size
    have l1 := row32_len (pathN b bs σ k)
    have l2 := row32_len (pathP bs σ k)
    obtain ⟨s1, s2, hW⟩ := rows_new w w2 w.heap.size hb2'.size hb2' (pathN b bs σ k) (pathP bs σ k) one_pathN one_pathP
    clear ht hb1 hb2 hlt hb2'
    go_upto_region 4 with fail
    generalize hw3 : World.setCells _ _ 0 (row32 (pathP bs σ k)) = w3
    obtain ⟨k2, k3, hb3, hb4⟩ := hW w3 hw3
    replace hx0 := (hb3.cell (p := ⟨w.heap.size, 0, none⟩) hlt2).trans hx0
    replace hx1 := (hb3.cell (p := ⟨w.heap.size, 1, none⟩) hlt2).trans hx1
    clear hw3 hW s1 s2 l1 l2
    have hn := k2.cell (show 0 < 32 by omega)
    have hp := k3.cell (show 0 < 32 by omega)
    have hpos : 0 < σ.H := by omega
    unfold pathN at hn
    unfold pathP at hp
    rw [if_pos hpos, prev0 HX.out hk] at hn hp
    replace hn : w3.cell? ⟨w2.heap.size, 0, none⟩ = some (.pointer (some ⟨nd b bs k, 0, none⟩)) := hn
    obtain ⟨s, hs⟩ := next_link HX.out hk hpos
    have hS3 := HS.out.below hb4
    have hto := hS3.to_ (nd_mem (b := b) hk) (show 0 < 32 by omega)
    rw [hs] at hto
    have HB4 := Aside0.mk hb4
    by_cases hkl : k < bs.length
    · rw [if_pos hkl] at hto
      replace hto : w3.cell? ⟨nd b bs k, 2, none⟩ = some (.pointer (some ⟨nd b bs (k + 1), 0, none⟩)) := hto
      have hm := nd_mem' (b := b) (show 1 ≤ k + 1 by omega) (show k + 1 ≤ bs.length by omega)
      have hme := hS3.member_ hm
      have hsc := hS3.score_ hm
      have hR := HM.out
      rw [if_pos hkl] at hR
      have HR := Aside0.mk hR
      have hq := eq_entry (σ.E (nd b bs (k + 1))) e
      generalize nd b bs (k + 1) = c' at hto hme hsc HR hq
      generalize nd b bs k = c at hn hto
      clear hR hm hs hb3 hb4 hS3 k2 k3
      go_wp2
      go_quiet (fail)
      go_wp2
      go_ret2
      rw [HR.out]
      exact ⟨rfl, pw_below_drewN HB4.out _⟩
    · rw [if_neg hkl] at hto
      replace hto : w3.cell? ⟨nd b bs k, 2, none⟩ = some (.pointer none) := hto
      have hR := HM.out
      rw [if_neg hkl] at hR
      have HR := Aside0.mk hR
      generalize nd b bs k = c at hn hto
      clear hR hs hb3 hb4 hS3 k2 k3
      go_wp2
      go_quiet (fail)
      go_wp2
      go_ret2
      rw [HR.out]
      exact ⟨rfl, pw_below_drewN HB4.out _⟩
end Go.Proofs.Ytnlbdmiflihghaa.P

/- The list's small functions: how many, how high, a new one, places within. Conditions: each theorem names its own. -/
namespace Go.Proofs.Ytnlbdmiflihghaa.P
open Go.RowKit Go.Shelf Go.Proofs.YtnlbdmiflihghaaW.PrintWords Go.Proofs.YtnlbdmiflihghaaW.PrintLast Go.Proofs.YtnlbdmiflihghaaW.PrintMore Go.Proofs.Ytnlbdmiflihghaa.SK
theorem max_mx (ats : Array TypeId) (ty : TypeId) (k k' : IntKind) (a b : Int) : Builtin.max_ ats ty #[.int k a, .int k' b] = pure (.int k (mx a b)) := by rw [max_two, max2_int]; rfl
theorem min_mn (ats : Array TypeId) (ty : TypeId) (k k' : IntKind) (a b : Int) : Builtin.min_ ats ty #[.int k a, .int k' b] = pure (.int k (mn a b)) := by rw [min_two, min2_int]; rfl
attribute [local go_sem] Oper.semAt_some
attribute [local go_sem high] max_mx min_mn

theorem len_calls {b : Nat} {bs : List Nat} {σ : St} {w : World} (hS : Sk w b bs σ) : Calls Try.prog 12 #[.pointer (some ⟨b, 0, none⟩)] w fun e w' => e = .returned (.int .i64 (σ.n : Int)) ∧ w' = w := by
  have hn := hS.n_
  clear hS
  go_enter Try.func12, Try.ntmps12
  go_wp2
  go_ret
  exact ⟨rfl, rfl⟩
theorem len_nil (w : World) : Calls Try.prog 12 #[.pointer none] w fun e w' => e = .returned (.int .i64 0) ∧ w' = w := by
  go_enter Try.func12, Try.ntmps12
  go_wp2
  go_ret
  exact ⟨rfl, rfl⟩
theorem levels_calls {b : Nat} {bs : List Nat} {σ : St} {w : World} (hS : Sk w b bs σ) : Calls Try.prog 16 #[.pointer (some ⟨b, 0, none⟩)] w fun e w' => e = .returned (.int .i64 (σ.H : Int)) ∧ w' = w := by
  have hn := hS.H_
  clear hS
  go_enter Try.func16, Try.ntmps16
  go_wp2
  go_ret
  exact ⟨rfl, rfl⟩
theorem levels_nil (w : World) : Calls Try.prog 16 #[.pointer none] w fun e w' => e = .returned (.int .i64 0) ∧ w' = w := by
  go_enter Try.func16, Try.ntmps16
  go_wp2
  go_ret
  exact ⟨rfl, rfl⟩
/-- Places within: from, to. -/
def inF (n f : Int) : Int := mx 0 (mn f n)
def inT (n f t : Int) : Int := mx (inF n f) (mn t n)
set_option maxHeartbeats 2000000 in
theorem within_of (p : Option Addr) (n f t : Int) (w : World) (hl : Calls Try.prog 12 #[.pointer p] w fun e w' => e = .returned (.int .i64 n) ∧ w' = w) :
    Calls Try.prog 37 #[.pointer p, .int .i64 f, .int .i64 t] w fun e w' => e = .returned (.tuple #[.int .i64 (inF n f), .int .i64 (inT n f t)]) ∧ w' = w := by
  go_enter Try.func37, Try.ntmps37
  go_wp2_with fail
  refine hl.mono ?_
  rintro e w1 ⟨rfl, rfl⟩
  go_wp2_with fail
  refine hl.mono ?_
  rintro e w1 ⟨rfl, rfl⟩
  go_wp2
  go_ret2
  exact ⟨rfl, rfl⟩
set_option maxHeartbeats 2000000 in
theorem max_calls (B : Nat) (a c : Int) (w : World) (h0 : w.cell? ⟨B, 0, none⟩ = some (.int .i64 a)) (h1 : w.cell? ⟨B, 1, none⟩ = some (.int .i64 c)) :
    Calls Try.prog 47 #[.slice (some ⟨B, 0, none⟩) 2 2] w fun e w' => e = .returned (.int .i64 (mx a c)) ∧ w' = w := by
  go_enter Try.func47, Try.ntmps47
  go_wp2
  go_loopg [3, 4] 2 (fun gk v3 v4 wr => wr = w ∧ ((gk = 2 ∧ v3 = .int .i64 a ∧ v4 = .int .i64 1) ∨ (gk = 1 ∧ v3 = .int .i64 (mx a c) ∧ v4 = .int .i64 2)))
  case atStart => exact ⟨rfl, .inl ⟨rfl, rfl, rfl⟩⟩
  case round =>
    obtain ⟨rfl, ⟨rfl, rfl, rfl⟩ | ⟨rfl, rfl, rfl⟩⟩ := hrel
    · go_wp2
      go_roundg 1
      case measure => omega
      case rel => exact ⟨rfl, .inr ⟨rfl, rfl, by go_num⟩⟩
    · go_wp2
      go_ret
      exact ⟨rfl, rfl⟩
theorem highest_calls (B : Nat) (a c : Int) (w : World) (h0 : w.cell? ⟨B, 0, none⟩ = some (.int .i64 a)) (h1 : w.cell? ⟨B, 1, none⟩ = some (.int .i64 c)) :
    Calls Try.prog 40 #[.slice (some ⟨B, 0, none⟩) 2 2] w fun e w' => e = .returned (.int .i64 (mx a c)) ∧ w' = w := by
  go_enter Try.func40, Try.ntmps40
  go_wp2_with fail
  refine (max_calls B a c w h0 h1).mono ?_
  rintro e w1 ⟨rfl, rfl⟩
  go_wp2
  go_ret
  exact ⟨rfl, rfl⟩
/-- A list with nothing. -/
def σ0 : St := { E := fun _ => (⟨#[]⟩, 0), lev := fun _ => 0, tow := fun _ _ => (none, 0), bk := fun _ => none, last := none, H := 0, n := 0 }
theorem head0 : (List.range 71).map (headC (fun _ => (none, 0)) none 0 0) = [.string ⟨#[]⟩, .int .i64 0, .pointer none, .int .i64 0, .pointer none, .int .i64 0, .pointer none, .int .i64 0, .pointer none, .int .i64 0, .pointer none, .int .i64 0, .pointer none, .int .i64 0, .pointer none, .int .i64 0, .pointer none, .int .i64 0, .pointer none, .int .i64 0, .pointer none, .int .i64 0, .pointer none, .int .i64 0, .pointer none, .int .i64 0, .pointer none, .int .i64 0, .pointer none, .int .i64 0, .pointer none, .int .i64 0, .pointer none, .int .i64 0, .pointer none, .int .i64 0, .pointer none, .int .i64 0, .pointer none, .int .i64 0, .pointer none, .int .i64 0, .pointer none, .int .i64 0, .pointer none, .int .i64 0, .pointer none, .int .i64 0, .pointer none, .int .i64 0, .pointer none, .int .i64 0, .pointer none, .int .i64 0, .pointer none, .int .i64 0, .pointer none, .int .i64 0, .pointer none, .int .i64 0, .pointer none, .int .i64 0, .pointer none, .int .i64 0, .pointer none, .int .i64 0, .int .i64 0, .pointer none, .pointer none, .int .i64 0, .int .i64 0] := by kernel_rfl
theorem bk_range {W : World} {B : Nat} {T : TypeId} {N : Nat} {f : Nat → Value} {l : List Value} (h : W.heap[B]? = some (.cells l.toArray T (0, 0))) (hl : (List.range N).map f = l) : Bk W B T N f := by
  subst hl
  refine Bk.of _ h (by simp) (fun j hj => ?_)
  simp [hj]
theorem shape0 (b : Nat) : Shape b [] σ0 where
  len := rfl
  small := by simp
  nodup := List.nodup_nil
  lv1 := fun c hc => by cases hc
  H32 := by decide
  Hex := .inl rfl
  tw := fun p hp i hi => by
    have : p = 0 := by simpa using hp
    subst this
    exact absurd hi (Nat.not_lt_zero _)
  tz := fun c hc => by cases hc
  bks := fun p h1 h2 => by simp at h2; omega
  lst := rfl
set_option maxHeartbeats 2000000 in
set_option maxRecDepth 100000 in
theorem zero64 (w : World) : (zeroValue 64).run Try.prog w = .ok (.agg #[.string ⟨#[]⟩, .int .i64 0, .pointer none, .int .i64 0, .pointer none, .int .i64 0, .pointer none, .int .i64 0, .pointer none, .int .i64 0, .pointer none, .int .i64 0, .pointer none, .int .i64 0, .pointer none, .int .i64 0, .pointer none, .int .i64 0, .pointer none, .int .i64 0, .pointer none, .int .i64 0, .pointer none, .int .i64 0, .pointer none, .int .i64 0, .pointer none, .int .i64 0, .pointer none, .int .i64 0, .pointer none, .int .i64 0, .pointer none, .int .i64 0, .pointer none, .int .i64 0, .pointer none, .int .i64 0, .pointer none, .int .i64 0, .pointer none, .int .i64 0, .pointer none, .int .i64 0, .pointer none, .int .i64 0, .pointer none, .int .i64 0, .pointer none, .int .i64 0, .pointer none, .int .i64 0, .pointer none, .int .i64 0, .pointer none, .int .i64 0, .pointer none, .int .i64 0, .pointer none, .int .i64 0, .pointer none, .int .i64 0, .pointer none, .int .i64 0, .pointer none, .int .i64 0, .int .i64 0, .pointer none, .pointer none, .int .i64 0, .int .i64 0]) w := by kernel_rfl
set_option maxHeartbeats 2000000 in
set_option maxRecDepth 100000 in
theorem new_calls (w : World) : Calls Try.prog 17 #[] w fun e w' => e = .returned (.pointer (some ⟨w.heap.size, 0, none⟩)) ∧ Sk w' w.heap.size [] σ0 ∧ Below w.heap.size w w' := by
  go_enter Try.func17, Try.ntmps17
  have hz := zero64 w
  go_wp2
  go_ret
  refine ⟨rfl, ⟨?_, (fun c hc => by cases hc), List.not_mem_nil⟩, below_alloc (Below.refl _ _) _⟩
  exact bk_range (World.alloc_heap_new w _) head0
end Go.Proofs.Ytnlbdmiflihghaa.P
