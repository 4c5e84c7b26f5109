/- The list by what it holds: entries, levels; what its functions do with these. Conditions: each theorem names its own. -/
import Derived.Test.YtnlbdmiflihghaaSKJ
import Derived.Test.YtnlbdmiflihghaaSKB
namespace Go.Proofs.Ytnlbdmiflihghaa.P
open Go.RowKit Go.Shelf Go.Proofs.YtnlbdmiflihghaaW.PrintWords Go.Proofs.YtnlbdmiflihghaaW.PrintLast Go.Proofs.YtnlbdmiflihghaaW.PrintMore Go.Proofs.Ytnlbdmiflihghaa.SK
attribute [local go_sem] Oper.semAt_some

/-- What a list holds. -/
abbrev Pl2 := List En × List Nat
/-- A list in memory: its blocks, what it holds. -/
structure Ls (w : World) (b : Nat) (F : List Nat) (p : Pl2) : Prop where
  ex : ∃ σ, Sk w b F σ ∧ Shape b F σ ∧ Srt p.1 ∧ F.map σ.E = p.1 ∧ lvs σ F = p.2
def zE : En := (⟨#[]⟩, 0)
def top (hs : List Nat) : Nat := hs.foldr max 0
def insP (e : En) (l : Int) (p : Pl2) : Int × Pl2 :=
  if l < 1 ∨ 32 < l then (2, p) else if isin e p.1 = true then (90, p) else (0, (p.1.take (rank e p.1) ++ e :: p.1.drop (rank e p.1), ins p.2 (rank e p.1) l.toNat))
def atP (p : Pl2) (i : Int) : En × Bool := if 0 ≤ i ∧ i < p.1.length then (p.1.getD i.toNat zE, true) else (zE, false)
def spansP (p : Pl2) (l : Int) : List Int := if l < 1 ∨ (top p.2 : Int) < l then [] else gaps (l.toNat - 1) p.2 0
def rangeP (p : Pl2) (f t : Int) : List En := (p.1.drop (inF p.1.length f).toNat).take ((inT p.1.length f t).toNat - (inF p.1.length f).toNat)
section
variable {w w' : World} {b : Nat} {F : List Nat} {p : Pl2}
theorem Ls.move (h : Ls w b F p) (hm : ∀ k, k ∈ b :: F → w'.heap[k]? = w.heap[k]?) : Ls w' b F p := by
  obtain ⟨σ, h1, h2⟩ := h.ex
  exact ⟨σ, h1.move hm, h2⟩
theorem Ls.lt (h : Ls w b F p) {c : Nat} (hc : c ∈ b :: F) : c < w.heap.size := by
  obtain ⟨σ, h1, _⟩ := h.ex
  exact h1.lt hc
theorem Ls.below (h : Ls w b F p) (hb : Below w.heap.size w w') : Ls w' b F p := h.move (fun k hk => hb.block k (h.lt hk))
theorem Ls.len (h : Ls w b F p) : F.length = p.1.length ∧ p.2.length = p.1.length := by
  obtain ⟨σ, _, _, _, h4, h5⟩ := h.ex
  rw [← h4, ← h5, lvs_len, List.length_map]
  exact ⟨rfl, rfl⟩
theorem top_le {hs : List Nat} {c : Nat} (hc : c ∈ hs) : c ≤ top hs := by
  induction hs with
  | nil => cases hc
  | cons a l ih =>
    show c ≤ max a (top l)
    rcases List.mem_cons.mp hc with rfl | hc
    · omega
    · have := ih hc; omega
theorem top_in (hs : List Nat) : top hs = 0 ∨ top hs ∈ hs := by
  induction hs with
  | nil => exact .inl rfl
  | cons a l ih =>
    have h : top (a :: l) = max a (top l) := rfl
    by_cases ha : top l ≤ a
    · rw [h, Nat.max_eq_left ha]; exact .inr List.mem_cons_self
    · rcases ih with h0 | h0
      · omega
      · rw [h, Nat.max_eq_right (by omega)]; exact .inr (List.mem_cons_of_mem _ h0)
theorem top_H {σ : St} (hX : Shape b F σ) : top (lvs σ F) = σ.H := by
  have h1 : top (lvs σ F) ≤ σ.H := by
    rcases top_in (lvs σ F) with h0 | h0
    · omega
    · obtain ⟨c, hc, he⟩ := List.mem_map.mp h0
      have := (hX.lv1 c hc).2
      omega
  rcases hX.Hex with h0 | ⟨c, hc, he⟩
  · omega
  · have h2 : σ.lev c ≤ top (lvs σ F) := top_le (List.mem_map.mpr ⟨c, hc, rfl⟩)
    omega
theorem ent_get {σ : St} (hE : F.map σ.E = p.1) {q : Nat} (hq : q < F.length) : entAt b F σ q = p.1.getD q zE := by
  unfold entAt nd
  rw [if_neg (by omega), ← hE]
  simp only [List.getD_eq_getElem?_getD, List.getElem?_map, show q + 1 - 1 = q by omega, List.getElem?_eq_getElem hq]
  rfl
theorem ls_new (w : World) : Calls Try.prog 17 #[] w fun e w' => e = .returned (.pointer (some ⟨w.heap.size, 0, none⟩)) ∧ Ls w' w.heap.size [] ([], []) ∧ Below w.heap.size w w' :=
  (new_calls w).mono fun _ _ ⟨h1, h2, h3⟩ => ⟨h1, ⟨σ0, h2, shape0 _, List.Pairwise.nil, rfl, rfl⟩, h3⟩
theorem ls_len (h : Ls w b F p) : Calls Try.prog 12 #[.pointer (some ⟨b, 0, none⟩)] w fun e w' => e = .returned (.int .i64 (p.1.length : Int)) ∧ w' = w := by
  have hl := h.len
  obtain ⟨σ, h1, h2, _⟩ := h.ex
  have := len_calls h1
  rw [h2.len, hl.1] at this
  exact this
theorem ls_levels (h : Ls w b F p) : Calls Try.prog 16 #[.pointer (some ⟨b, 0, none⟩)] w fun e w' => e = .returned (.int .i64 (top p.2 : Int)) ∧ w' = w := by
  obtain ⟨σ, h1, h2, _, _, h5⟩ := h.ex
  have := levels_calls h1
  rw [← h5, top_H h2]
  exact this
theorem ls_seek (h : Ls w b F p) (e : En) : Calls Try.prog 14 #[.pointer (some ⟨b, 0, none⟩), .agg #[.string e.1, .int .i64 e.2]] w fun r w' => r = .returned (.tuple #[.int .i64 (rank e p.1 : Nat), .bool (isin e p.1)]) ∧ Below w.heap.size w w' := by
  obtain ⟨σ, h1, h2, h3, h4, _⟩ := h.ex
  have := seek_calls b F σ e w h1 h2 (by rw [h4]; exact h3)
  rw [h4] at this
  exact this
theorem ls_at (h : Ls w b F p) (i : Int) : Calls Try.prog 13 #[.pointer (some ⟨b, 0, none⟩), .int .i64 i] w fun e w' => e = .returned (.tuple #[.agg #[.string (atP p i).1.1, .int .i64 (atP p i).1.2], .bool (atP p i).2]) ∧ Below w.heap.size w w' := by
  have hl := h.len
  obtain ⟨σ, h1, h2, h3, h4, _⟩ := h.ex
  unfold atP
  by_cases hi : 0 ≤ i ∧ i < p.1.length
  · rw [if_pos hi]
    have hq : i.toNat < F.length := by omega
    have := at_in b F σ i.toNat hq w h1 h2
    rw [show ((i.toNat : Nat) : Int) = i by omega] at this
    have he : σ.E (nd b F (i.toNat + 1)) = p.1.getD i.toNat zE := ent_get h4 hq
    rw [he] at this
    exact this
  · rw [if_neg hi]
    have hlen := fun w' (hb : Below w.heap.size w w') => len_calls (h1.below hb)
    exact at_out (some ⟨b, 0, none⟩) σ.n i w hlen (by rw [h2.len]; omega)
theorem ls_spans (h : Ls w b F p) (l : Int) : Calls Try.prog 15 #[.pointer (some ⟨b, 0, none⟩), .int .i64 l] w fun e w' => ∃ v, e = .returned v ∧ RowI w' w.heap.size v (spansP p l) ∧ Below w.heap.size w w' := by
  obtain ⟨σ, h1, h2, h3, h4, h5⟩ := h.ex
  unfold spansP
  rw [← h5, top_H h2]
  by_cases hl : l < 1 ∨ (σ.H : Int) < l
  · rw [if_pos hl]
    exact (spans_out b F σ l w h1 hl).mono fun _ _ ⟨e1, e2⟩ => ⟨_, e1, rowI_nil _ _, by rw [e2]; exact Below.refl _ _⟩
  · rw [if_neg hl]
    have := spans_calls b F σ (l.toNat - 1) (by omega) w h1 h2
    rw [show ((l.toNat - 1 + 1 : Nat) : Int) = l by omega] at this
    exact this
theorem map_range' (f : Nat → En) (L : List En) (hf : ∀ q, q < L.length → f q = L.getD q zE) : ∀ n a : Nat, a + n ≤ L.length → (List.range' a n).map f = (L.drop a).take n
  | 0, a, _ => by simp
  | n + 1, a, h => by
    rw [List.range'_succ, List.map_cons, map_range' f L hf n (a + 1) (by omega), hf a (by omega), List.drop_eq_getElem_cons (by omega : a < L.length), List.take_succ_cons, List.getD_eq_getElem?_getD, List.getElem?_eq_getElem (by omega)]
    rfl
theorem ls_range (h : Ls w b F p) (f t : Int) : Calls Try.prog 20 #[.pointer (some ⟨b, 0, none⟩), .int .i64 f, .int .i64 t] w fun e w' => ∃ v, e = .returned v ∧ RowE w' w.heap.size v (rangeP p f t) ∧ Below w.heap.size w w' := by
  have hl := h.len
  obtain ⟨σ, h1, h2, h3, h4, _⟩ := h.ex
  obtain ⟨A, T, hF, hT, hFT, hTn⟩ := in_nat σ.n f t
  have hTl : T ≤ F.length := by rw [← h2.len]; exact hTn
  have := range_calls b F σ f t A T hF hT hFT hTl w h1 h2
  rw [map_range' (entAt b F σ) p.1 (fun q hq => ent_get h4 (by omega)) (T - A) A (by omega)] at this
  unfold rangeP
  rw [← hl.1, ← h2.len, hF, hT]
  exact this
/-- What an act on a list leaves. -/
def After (w : World) (b : Nat) (F : List Nat) (p' : Pl2) (w' : World) : Prop := ∃ F', Ls w' b F' p' ∧ Foot (b :: F) w w' ∧ ∀ c, c ∈ F' → c ∈ F ∨ w.heap.size ≤ c
theorem After.same (h : Ls w b F p) (hb : Below w.heap.size w w') : After w b F p w' := ⟨F, h.below hb, Foot.of hb, fun _ hc => .inl hc⟩
theorem ls_insert (h : Ls w b F p) (e : En) (l : Int) (hsm : p.1.length < 1000) : Calls Try.prog 29 #[.pointer (some ⟨b, 0, none⟩), .agg #[.string e.1, .int .i64 e.2], .int .i64 l] w fun r w' => r = .returned (.int .i64 (insP e l p).1) ∧ After w b F (insP e l p).2 w' := by
  have hl := h.len
  unfold insP
  by_cases h0 : l < 1 ∨ 32 < l
  · rw [if_pos h0]
    exact (insert_arg b e l w h0).mono fun _ _ ⟨e1, e2⟩ => ⟨e1, .same h e2⟩
  · rw [if_neg h0]
    have hln : ((l.toNat : Nat) : Int) = l := by omega
    obtain ⟨σ, h1, h2, h3, h4, h5⟩ := h.ex
    by_cases hin : isin e p.1 = true
    · rw [if_pos hin]
      have := insert_has b F σ e l.toNat (by omega) (by omega) w h1 h2 (by rw [h4]; exact h3) (by rw [h4]; exact hin)
      rw [hln] at this
      exact this.mono fun _ _ ⟨e1, e2⟩ => ⟨e1, .same h e2⟩
    · rw [if_neg hin]
      have hin' : isin e p.1 = false := by simpa using hin
      have := insert_new b F σ e l.toNat (by omega) (by omega) w h1 h2 (by rw [h4]; exact h3) (by rw [h4]; exact hin') (by omega)
      rw [hln, h4] at this
      refine this.mono ?_
      rintro r w' ⟨rfl, x, hx, hS, hF⟩
      have hxF : x ∉ F := fun hc => by have := h.lt (List.mem_cons_of_mem _ hc); omega
      have hxb : x ≠ b := fun he => by have := h.lt (List.mem_cons_self (a := b) (l := F)); omega
      have hk : rank e p.1 ≤ F.length := by rw [hl.1]; exact rank_le e p.1
      refine ⟨rfl, insB F (rank e p.1) x, ⟨_, hS.mem (fun c hc => by rcases mem_insB.mp hc with hc | hc; exact hc ▸ List.mem_cons_self; exact List.mem_cons_of_mem _ hc), shape_ins h2 h1.ne hk hxF hxb (by omega) (by omega) (by omega), ?_, ?_, ?_⟩, hF, fun c hc => ?_⟩
      · exact srt_insert e p.1 h3 (fun hc => hin (isin_iff.mpr hc))
      · rw [ents_ins hxF, h4]
      · rw [lvs_ins hxF, h5]
      · rcases mem_insB.mp hc with rfl | hc
        · exact .inr hx
        · exact .inl hc
end
end Go.Proofs.Ytnlbdmiflihghaa.P
