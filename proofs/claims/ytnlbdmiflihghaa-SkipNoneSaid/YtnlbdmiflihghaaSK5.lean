/- The path to an entry, the path to a place. Conditions: each theorem names its own. -/
import Derived.Test.YtnlbdmiflihghaaSK3
import Derived.Test.YtnlbdmiflihghaaSK4
namespace Go.Proofs.Ytnlbdmiflihghaa.P
open Go.RowKit Go.Shelf Go.Proofs.YtnlbdmiflihghaaW.PrintWords Go.Proofs.YtnlbdmiflihghaaW.PrintLast Go.Proofs.YtnlbdmiflihghaaW.PrintMore Go.Proofs.Ytnlbdmiflihghaa.SK
attribute [local go_sem] Oper.semAt_some

/-- Many cells of a block stored. -/
theorem Bk.setCells {B : Nat} {T : TypeId} {N : Nat} : ∀ (vs : List Value) (o : Nat) {W : World} {f : Nat → Value}, Bk W B T N f → Bk (W.setCells B o vs) B T N (fun i => if o ≤ i ∧ i < o + vs.length then vs.getD (i - o) undef else f i)
  | [], o, W, f, h => h.ext (fun j _ => by rw [if_neg (by simp)])
  | v :: r, o, W, f, h => by
    have := Bk.setCells r (o + 1) (h.set o v)
    refine Bk.ext (W := (W.setCell ⟨B, o, none⟩ v).setCells B (o + 1) r) this (fun j _ => ?_)
    simp only [List.length_cons]
    by_cases h1 : j = o
    · subst h1
      rw [if_neg (by omega), if_pos rfl, if_pos (by omega)]
      simp
    · by_cases h2 : o + 1 ≤ j ∧ j < o + 1 + r.length
      · rw [if_pos h2, if_pos (by omega)]
        obtain ⟨m, rfl⟩ : ∃ m, j = o + 1 + m := ⟨j - (o + 1), by omega⟩
        rw [show o + 1 + m - (o + 1) = m by omega, show o + 1 + m - o = m + 1 by omega]
        simp
      · rw [if_neg h2, if_neg h1, if_neg (by omega)]
theorem Bk.row {W : World} {B : Nat} {T : TypeId} {f g : Nat → Value} (h : Bk W B T 32 g) : Bk (W.setCells B 0 (row32 f)) B T 32 f := by
  refine (h.setCells (row32 f) 0).ext (fun j hj => ?_)
  rw [if_pos (by rw [row32_len]; omega)]
  unfold row32
  rw [Nat.sub_zero, List.getD_eq_getElem?_getD, List.getElem?_map, List.getElem?_range hj]
  rfl
theorem setCells_apart {B k : Nat} (h : k ≠ B) : ∀ (vs : List Value) (o : Nat) (W : World), (W.setCells B o vs).heap[k]? = W.heap[k]?
  | [], _, _ => rfl
  | v :: r, o, W => (setCells_apart h r (o + 1) (W.setCell ⟨B, o, none⟩ v)).trans (Below.heap_setCell W ⟨B, o, none⟩ v k h)
/-- A row of 32 values stored into a block. -/
theorem store_row {W : World} {B : Nat} {T : TypeId} {f g : Nat → Value} (hB : Bk W B T 32 g) (h1 : ∀ v ∈ row32 f, v.oneCell' = true) : (storeCells ⟨B, 0, none⟩ (row32 f)).run Try.prog W = .ok () (W.setCells B 0 (row32 f)) := by
  have := run_storeCells_cells (P := Try.prog) B 0 (row32 f) 0 W (fun j hj => by rw [row32_len] at hj; rw [hB.cell (by omega)]; rfl) (fun j hj => hB.frozen _) h1
  exact this
theorem prev0 {σ : St} {b : Nat} {bs : List Nat} (hX : Shape b bs σ) {k : Nat} (hk : k ≤ bs.length) : prevP (lvs σ bs) 0 k = k := by
  refine (prevP_spec (lvs σ bs) 0 k).unique ⟨Nat.le_refl _, ?_, fun r h1 h2 => by omega⟩
  rcases Nat.eq_zero_or_pos k with h | h
  · exact .inl h
  · refine .inr (V_lvl.mpr ⟨h, ?_⟩)
    rw [lvl_nd (b := b) h hk]
    have := (hX.lv1 _ (nd_mem' (b := b) h hk)).1
    omega
theorem three_new (w : World) (C0 : Array Value) (T0 : TypeId) (N0 P0 : Array Value) (W : World) (hW : ((w.alloc (.cells C0 T0)).alloc (.cells N0 68)).alloc (.cells P0 69) = W) (hN : N0 = Array.replicate 32 (.pointer none)) (hP : P0 = Array.replicate 32 (.int .i64 0)) :
    W.heap[w.heap.size]? = some (.cells C0 T0 (0, 0)) ∧ Bk W (w.heap.size + 1) 68 32 (fun _ => .pointer none) ∧ Bk W (w.heap.size + 1 + 1) 69 32 (fun _ => .int .i64 0) ∧ Below w.heap.size w W := by
  subst hW
  have a2 := Bk.fill (W := w.alloc (.cells C0 T0)) (T := 68) N0 hN
  have a3 := Bk.fill (W := (w.alloc (.cells C0 T0)).alloc (.cells N0 68)) (T := 69) P0 hP
  have a1 : (w.alloc (.cells C0 T0)).heap[w.heap.size]? = some (.cells C0 T0 (0, 0)) := World.alloc_heap_new w _
  simp only [World.size_alloc] at a2 a3
  refine ⟨?_, a2.alloc _, a3, below_alloc (below_alloc (below_alloc (Below.refl _ _) _) _) _⟩
  have e1 := ((Below.refl (w.alloc (.cells C0 T0)).heap.size (w.alloc (.cells C0 T0))).alloc (Nat.le_refl _) (.cells N0 68)).block w.heap.size (by simp)
  have e2 := ((Below.refl ((w.alloc (.cells C0 T0)).alloc (.cells N0 68)).heap.size ((w.alloc (.cells C0 T0)).alloc (.cells N0 68))).alloc (Nat.le_refl _) (.cells P0 69)).block w.heap.size (by simp; omega)
  rw [e2, e1, a1]
theorem cell_at {W : World} {B : Nat} {C : Array Value} {T : TypeId} (h : W.heap[B]? = some (.cells C T (0, 0))) {j : Nat} {v : Value} (hj : C[j]? = some v) : W.cell? ⟨B, j, none⟩ = some v := by simp [World.cell?, h, hj]
set_option maxHeartbeats 8000000 in
set_option maxRecDepth 100000 in
theorem until_calls (b : Nat) (bs : List Nat) (σ : St) (k : Nat) (hk : k ≤ bs.length) (w : World) (hS : Sk w b bs σ) (hX : Shape b bs σ) :
    Calls Try.prog 38 #[.pointer (some ⟨b, 0, none⟩), .int .i64 (k : Int)] w fun e w' => e = .returned (.tuple #[.agg (row32 (pathN b bs σ k)).toArray, .agg (row32 (pathP bs σ k)).toArray]) ∧ Below w.heap.size w w' := by
  have HS := Aside0.mk hS
  have HX := Aside0.mk hX
  clear hS hX
  go_enter Try.func38, Try.ntmps38
  go_wp2_with fail
  generalize hW3 : World.alloc _ (.cells _ 69) = W3
  obtain ⟨h1, h2, h3, hb3⟩ := three_new w _ _ _ _ W3 hW3 rfl rfl
  clear hW3
  have hlt : w.heap.size < W3.heap.size := (Array.getElem?_eq_some_iff.1 h1).1
  refine (path_calls 46 #[.pointer (some ⟨w.heap.size, 0, none⟩)] (fun _ _ => rfl) b bs σ k hk W3 (HS.out.below hb3) HX.out (fun q _ _ W hW => until1_calls w.heap.size (nd b bs q) k q W ((hW.cell (p := ⟨w.heap.size, 0, none⟩) hlt).trans (cell_at h1 rfl)))).mono ?_
  rintro e w1 ⟨rfl, hb⟩
  have H2 := h2.below hb
  have H3 := h3.below hb
  have HB := Aside0.mk (hb3.trans (hb.mono hb3.size))
  clear h1 h2 h3 hb3 hb hlt
  have l1 := row32_len (pathN b bs σ k)
  have l2 := row32_len (pathP bs σ k)
  have s1 := store_row (f := pathN b bs σ k) H2 one_pathN
  have k2 := H2.row (f := pathN b bs σ k)
  have H3' := H3.move (setCells_apart (B := w.heap.size + 1) (by omega) (row32 (pathN b bs σ k)) 0 w1)
  have s2 := store_row (f := pathP bs σ k) H3' one_pathP
  have k3 := H3'.row (f := pathP bs σ k)
  have k2' := k2.move (setCells_apart (B := w.heap.size + 1 + 1) (by omega) (row32 (pathP bs σ k)) 0 _)
  have HB3 := below_cells (w.heap.size + 1 + 1) (by omega) (row32 (pathP bs σ k)) 0 (below_cells (w.heap.size + 1) (by omega) (row32 (pathN b bs σ k)) 0 HB.out)
  have K2 := Aside0.mk k2'
  have K3 := Aside0.mk k3
  have HB4 := Aside0.mk HB3
  clear k2 k3 k2' HB3 HB H2 H3 H3'
  go_wp2
  exact bodyPost_ret (results_cells (by rfl) (by rfl) (by rfl) (loadVar68 (load_range K2.out.range)) (loadVar69 (load_range K3.out.range))) rfl ⟨rfl, HB4.out⟩
/-- The path to an entry: up to those that stand ahead. -/
theorem tells_to {w : World} {b : Nat} {bs : List Nat} {σ : St} (e : En) (hS : Sk w b bs σ) (hs : Srt (bs.map σ.E)) {B : Nat} (h0 : w.cell? ⟨B, 0, none⟩ = some (.string e.1)) (h1 : w.cell? ⟨B, 1, none⟩ = some (.int .i64 e.2)) (hB : B < w.heap.size) :
    Tells 43 #[.pointer (some ⟨B, 0, none⟩)] b bs (rank e (bs.map σ.E)) w := by
  intro q hq1 hq2 W hW
  have hm := nd_mem' (b := b) hq1 hq2
  have hSW := hS.below hW
  have hr := rank_lt e (bs.map σ.E) hs (q - 1) (by rw [List.length_map]; omega)
  have hn : (bs.map σ.E)[q - 1]'(by rw [List.length_map]; omega) = σ.E (nd b bs q) := by
    rw [List.getElem_map]
    unfold nd
    rw [if_neg (by omega), List.getD_eq_getElem?_getD, List.getElem?_eq_getElem (by omega)]
    rfl
  rw [hn] at hr
  have hd : decide (q ≤ rank e (bs.map σ.E)) = ltE (σ.E (nd b bs q)) e := by
    rw [hr]
    exact decide_eq_decide.mpr (by omega)
  rw [hd]
  exact to1_calls e (σ.E (nd b bs q)) B (nd b bs q) q W (hSW.member_ hm) (hSW.score_ hm) ((hW.cell (p := ⟨B, 0, none⟩) hB).trans h0) ((hW.cell (p := ⟨B, 1, none⟩) hB).trans h1)
set_option maxHeartbeats 8000000 in
set_option maxRecDepth 100000 in
theorem to_calls (b : Nat) (bs : List Nat) (σ : St) (e : En) (w : World) (hS : Sk w b bs σ) (hX : Shape b bs σ) (hs : Srt (bs.map σ.E)) :
    Calls Try.prog 31 #[.pointer (some ⟨b, 0, none⟩), .agg #[.string e.1, .int .i64 e.2]] w fun r w' => r = .returned (.tuple #[.agg (row32 (pathN b bs σ (rank e (bs.map σ.E)))).toArray, .agg (row32 (pathP bs σ (rank e (bs.map σ.E)))).toArray]) ∧ Below w.heap.size w w' := by
  have HS := Aside0.mk hS
  have HX := Aside0.mk hX
  have HO := Aside0.mk hs
  clear hS hX hs
  have hk : rank e (bs.map σ.E) ≤ bs.length := by have := rank_le e (bs.map σ.E); rwa [List.length_map] at this
  generalize hke : rank e (bs.map σ.E) = k at hk
  have HKE := Aside0.mk hke
  clear hke
  go_enter Try.func31, Try.ntmps31
  go_wp2_with fail
  generalize hW3 : World.alloc _ (.cells _ 69) = W3
  obtain ⟨h1, h2, h3, hb3⟩ := three_new w _ _ _ _ W3 hW3 rfl rfl
  clear hW3
  have hlt : w.heap.size < W3.heap.size := (Array.getElem?_eq_some_iff.1 h1).1
  refine (path_calls 43 #[.pointer (some ⟨w.heap.size, 0, none⟩)] (fun _ _ => rfl) b bs σ k hk W3 (HS.out.below hb3) HX.out (HKE.out ▸ tells_to e (HS.out.below hb3) HO.out (cell_at h1 rfl) (cell_at h1 rfl) hlt)).mono ?_
  rintro r w1 ⟨rfl, hb⟩
  have H2 := h2.below hb
  have H3 := h3.below hb
  have HB := Aside0.mk (hb3.trans (hb.mono hb3.size))
  clear h1 h2 h3 hb3 hb hlt
  have l1 := row32_len (pathN b bs σ k)
  have l2 := row32_len (pathP bs σ k)
  have s1 := store_row (f := pathN b bs σ k) H2 one_pathN
  have k2 := H2.row (f := pathN b bs σ k)
  have H3' := H3.move (setCells_apart (B := w.heap.size + 1) (by omega) (row32 (pathN b bs σ k)) 0 w1)
  have s2 := store_row (f := pathP bs σ k) H3' one_pathP
  have k3 := H3'.row (f := pathP bs σ k)
  have k2' := k2.move (setCells_apart (B := w.heap.size + 1 + 1) (by omega) (row32 (pathP bs σ k)) 0 _)
  have HB3 := below_cells (w.heap.size + 1 + 1) (by omega) (row32 (pathP bs σ k)) 0 (below_cells (w.heap.size + 1) (by omega) (row32 (pathN b bs σ k)) 0 HB.out)
  have K2 := Aside0.mk k2'
  have K3 := Aside0.mk k3
  have HB4 := Aside0.mk HB3
  clear k2 k3 k2' HB3 HB H2 H3 H3'
  go_wp2
  exact bodyPost_ret (results_cells (by rfl) (by rfl) (by rfl) (loadVar68 (load_range K2.out.range)) (loadVar69 (load_range K3.out.range))) rfl ⟨rfl, HB4.out⟩
abbrev N32 : Array Value := #[.pointer none, .pointer none, .pointer none, .pointer none, .pointer none, .pointer none, .pointer none, .pointer none, .pointer none, .pointer none, .pointer none, .pointer none, .pointer none, .pointer none, .pointer none, .pointer none, .pointer none, .pointer none, .pointer none, .pointer none, .pointer none, .pointer none, .pointer none, .pointer none, .pointer none, .pointer none, .pointer none, .pointer none, .pointer none, .pointer none, .pointer none, .pointer none]
abbrev P32 : Array Value := #[.int .i64 0, .int .i64 0, .int .i64 0, .int .i64 0, .int .i64 0, .int .i64 0, .int .i64 0, .int .i64 0, .int .i64 0, .int .i64 0, .int .i64 0, .int .i64 0, .int .i64 0, .int .i64 0, .int .i64 0, .int .i64 0, .int .i64 0, .int .i64 0, .int .i64 0, .int .i64 0, .int .i64 0, .int .i64 0, .int .i64 0, .int .i64 0, .int .i64 0, .int .i64 0, .int .i64 0, .int .i64 0, .int .i64 0, .int .i64 0, .int .i64 0, .int .i64 0]
/-- Two rows laid anew and stored into: what holds behind it. -/
theorem rows_new (w0 w : World) (m : Nat) (hm : m ≤ w.heap.size) (hb0 : Below m w0 w) (f g : Nat → Value) (h1 : ∀ v ∈ row32 f, v.oneCell' = true) (h2 : ∀ v ∈ row32 g, v.oneCell' = true) :
    (storeCells ⟨w.heap.size, 0, none⟩ (row32 f)).run Try.prog ((w.alloc (.cells N32 68)).alloc (.cells P32 69)) = .ok () (((w.alloc (.cells N32 68)).alloc (.cells P32 69)).setCells w.heap.size 0 (row32 f)) ∧
    (storeCells ⟨w.heap.size + 1, 0, none⟩ (row32 g)).run Try.prog (((w.alloc (.cells N32 68)).alloc (.cells P32 69)).setCells w.heap.size 0 (row32 f)) = .ok () ((((w.alloc (.cells N32 68)).alloc (.cells P32 69)).setCells w.heap.size 0 (row32 f)).setCells (w.heap.size + 1) 0 (row32 g)) ∧
    (∀ w3, (((w.alloc (.cells N32 68)).alloc (.cells P32 69)).setCells w.heap.size 0 (row32 f)).setCells (w.heap.size + 1) 0 (row32 g) = w3 → Bk w3 w.heap.size 68 32 f ∧ Bk w3 (w.heap.size + 1) 69 32 g ∧ Below w.heap.size w w3 ∧ Below m w0 w3) := by
  have a2 := (Bk.fill (W := w) (T := 68) (N := 32) (v := .pointer none) N32 rfl).alloc (.cells P32 69)
  have a3 := Bk.fill (W := w.alloc (.cells N32 68)) (T := 69) (N := 32) (v := .int .i64 0) P32 rfl
  simp only [World.size_alloc] at a3
  have a3' := a3.move (setCells_apart (B := w.heap.size) (by omega) (row32 f) 0 _)
  refine ⟨store_row a2 h1, store_row a3' h2, ?_⟩
  rintro w3 rfl
  refine ⟨(a2.row (f := f)).move (setCells_apart (by omega) _ _ _), a3'.row, ?_, ?_⟩
  · exact below_cells _ (by omega) _ _ (below_cells _ (Nat.le_refl _) _ _ (below_alloc (below_alloc (Below.refl _ _) _) _))
  · exact below_cells _ (by omega) _ _ (below_cells _ hm _ _ ((hb0.alloc hm _).alloc (by rw [World.size_alloc]; omega) _))
end Go.Proofs.Ytnlbdmiflihghaa.P
