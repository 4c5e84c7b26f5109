/- Two lists side by side; two rows alike; an act whatever the level. Conditions: each theorem names its own. -/
import Derived.Test.YtnlbdmiflihghaaPL1
namespace Go.Proofs.Ytnlbdmiflihghaa.P
open Go.RowKit Go.Shelf Go.Proofs.YtnlbdmiflihghaaW.PrintWords Go.Proofs.YtnlbdmiflihghaaW.PrintLast Go.Proofs.YtnlbdmiflihghaaW.PrintMore Go.Proofs.Ytnlbdmiflihghaa.SK
attribute [local go_sem] Oper.semAt_some

/-- Two lists of the function's own, apart from one another. -/
structure Two (m : Nat) (w0 w : World) (b1 : Nat) (F1 : List Nat) (p1 : Pl2) (b2 : Nat) (F2 : List Nat) (p2 : Pl2) : Prop where
  a : Own m w0 w b1 F1 p1
  b : Own m w0 w b2 F2 p2
  dis : ∀ c, c ∈ b1 :: F1 → c ∉ b2 :: F2
section
variable {m : Nat} {w0 w w' : World} {b1 b2 : Nat} {F1 F2 : List Nat} {p1 p2 p' : Pl2}
theorem Two.below (h : Two m w0 w b1 F1 p1 b2 F2 p2) (hb : Below w.heap.size w w') : Two m w0 w' b1 F1 p1 b2 F2 p2 := ⟨h.a.below hb, h.b.below hb, h.dis⟩
theorem Two.swap (h : Two m w0 w b1 F1 p1 b2 F2 p2) : Two m w0 w b2 F2 p2 b1 F1 p1 := ⟨h.b, h.a, fun c h1 h2 => h.dis c h2 h1⟩
theorem Two.fst' (h : Two m w0 w b1 F1 p1 b2 F2 p2) {F' : List Nat} (h1 : Ls w' b1 F' p') (h2 : Foot (b1 :: F1) w w') (h3 : ∀ c, c ∈ F' → c ∈ F1 ∨ w.heap.size ≤ c) : Two m w0 w' b1 F' p' b2 F2 p2 := by
  have hlt := h.a.lt
  have hbl : Below m w0 w' := h.a.bl.trans (h2.toBelow (Nat.le_of_lt hlt) h.a.ge)
  refine ⟨⟨h1, fun c hc => ?_, hbl⟩, ⟨h.b.ls.move (fun k hk => h2.block k (h.b.ls.lt hk) (fun hc => h.dis k hc hk)), h.b.ge, hbl⟩, fun c hc hc2 => ?_⟩
  · rcases List.mem_cons.mp hc with rfl | hc
    · exact h.a.ge _ List.mem_cons_self
    · rcases h3 c hc with h4 | h4
      · exact h.a.ge c (List.mem_cons_of_mem _ h4)
      · omega
  · rcases List.mem_cons.mp hc with rfl | hc
    · exact h.dis _ List.mem_cons_self hc2
    · rcases h3 c hc with h4 | h4
      · exact h.dis c (List.mem_cons_of_mem _ h4) hc2
      · have := h.b.ls.lt hc2
        omega
theorem Two.fst (h : Two m w0 w b1 F1 p1 b2 F2 p2) (ha : After w b1 F1 p' w') : ∃ F', Two m w0 w' b1 F' p' b2 F2 p2 := by
  obtain ⟨F', h1, h2, h3⟩ := ha
  exact ⟨F', h.fst' h1 h2 h3⟩
theorem Two.snd (h : Two m w0 w b1 F1 p1 b2 F2 p2) (ha : After w b2 F2 p' w') : ∃ F', Two m w0 w' b1 F1 p1 b2 F' p' := by
  obtain ⟨F', h1⟩ := h.swap.fst ha
  exact ⟨F', h1.swap⟩
/-- Two lists, and a row of entries apart from both. -/
structure Row2 (m : Nat) (w0 w : World) (b1 : Nat) (F1 : List Nat) (p1 : Pl2) (b2 : Nat) (F2 : List Nat) (p2 : Pl2) (v : Value) (L : List En) : Prop where
  two : Two m w0 w b1 F1 p1 b2 F2 p2
  row : RowE w m v L
  ap : ∀ k, v.ownBlock = some k → k ∉ b1 :: F1 ∧ k ∉ b2 :: F2 ∧ k < w.heap.size
theorem own_at {W : World} {base size n : Nat} {e : TypeId} {v : Value} {xs : List Value} (h : W.ownsRow base e size v n xs) {k : Nat} (hk : v.ownBlock = some k) : base ≤ k ∧ k < W.heap.size := by
  rcases h.2 with ⟨rfl, _⟩ | ⟨g, cap, cur, rfl, h3, h4, h5⟩
  · cases hk
  · have : g = k := by injection hk
    subst this
    refine ⟨h3, ?_⟩
    rcases Nat.lt_or_ge g W.heap.size with h6 | h6
    · exact h6
    · rw [Array.getElem?_eq_none h6] at h4
      cases h4
theorem own_mono {W : World} {base base' size n : Nat} {e : TypeId} {v : Value} {xs : List Value} (h : W.ownsRow base e size v n xs) (hb : base' ≤ base) : W.ownsRow base' e size v n xs := by
  refine ⟨h.1, ?_⟩
  rcases h.2 with h2 | ⟨g, cap, cur, rfl, h3, h4, h5⟩
  · exact .inl h2
  · exact .inr ⟨g, cap, cur, rfl, Nat.le_trans hb h3, h4, h5⟩
theorem Two.row {v : Value} {L : List En} (h : Two m w0 w b1 F1 p1 b2 F2 p2) (hR : RowE w' w.heap.size v L) (hb : Below w.heap.size w w') : Row2 m w0 w' b1 F1 p1 b2 F2 p2 v L :=
  ⟨h.below hb, own_mono hR (Nat.le_of_lt h.a.lt), fun k hk => by
    obtain ⟨h1, h2⟩ := own_at hR hk
    exact ⟨fun hc => by have := h.a.ls.lt hc; omega, fun hc => by have := h.b.ls.lt hc; omega, h2⟩⟩
theorem Row2.swap {v : Value} {L : List En} (h : Row2 m w0 w b1 F1 p1 b2 F2 p2 v L) : Row2 m w0 w b2 F2 p2 b1 F1 p1 v L := ⟨h.two.swap, h.row, fun k hk => ⟨(h.ap k hk).2.1, (h.ap k hk).1, (h.ap k hk).2.2⟩⟩
theorem Row2.below {v : Value} {L : List En} (h : Row2 m w0 w b1 F1 p1 b2 F2 p2 v L) (hb : Below w.heap.size w w') : Row2 m w0 w' b1 F1 p1 b2 F2 p2 v L :=
  ⟨h.two.below hb, rows_own h.row (fun k hk => hb.block k (h.ap k hk).2.2), fun k hk => ⟨(h.ap k hk).1, (h.ap k hk).2.1, Nat.lt_of_lt_of_le (h.ap k hk).2.2 hb.size⟩⟩
theorem Row2.fst {v : Value} {L : List En} (h : Row2 m w0 w b1 F1 p1 b2 F2 p2 v L) (ha : After w b1 F1 p' w') : ∃ F', Row2 m w0 w' b1 F' p' b2 F2 p2 v L := by
  obtain ⟨F', h1, h2, h3⟩ := ha
  refine ⟨F', h.two.fst' h1 h2 h3, rows_own h.row (fun k hk => h2.block k (h.ap k hk).2.2 (h.ap k hk).1), fun k hk => ?_⟩
  obtain ⟨g1, g2, g3⟩ := h.ap k hk
  refine ⟨fun hc => ?_, g2, Nat.lt_of_lt_of_le g3 h2.size⟩
  rcases List.mem_cons.mp hc with rfl | hc
  · exact g1 List.mem_cons_self
  · rcases h3 k hc with h4 | h4
    · exact g1 (List.mem_cons_of_mem _ h4)
    · omega
theorem Row2.snd {v : Value} {L : List En} (h : Row2 m w0 w b1 F1 p1 b2 F2 p2 v L) (ha : After w b2 F2 p' w') : ∃ F', Row2 m w0 w' b1 F1 p1 b2 F' p' v L := by
  obtain ⟨F', h1⟩ := h.swap.fst ha
  exact ⟨F', h1.swap⟩
theorem Row2.reads {A : Option Addr} {n c : Nat} {L : List En} (h : Row2 m w0 w b1 F1 p1 b2 F2 p2 (.slice A n c) L) : Kd.C k28 w A L.length (L.map toS) := by
  obtain ⟨A', c', he, _, hC⟩ := h.row.reads
  injection he with e1 e2 e3
  subst e1
  exact hC
/-- One list more. -/
theorem Own.two {w2 : World} (h : Own m w0 w b1 F1 p1) (h2 : Own w.heap.size w w2 b2 F2 p2) : Two m w0 w2 b1 F1 p1 b2 F2 p2 :=
  ⟨h.below h2.bl, ⟨h2.ls, fun c hc => Nat.le_trans (Nat.le_of_lt h.lt) (h2.ge c hc), (h.below h2.bl).bl⟩, fun c hc hc2 => by have h3 := h2.ge c hc2; have h4 := h.ls.lt hc; omega⟩
end
section
theorem same_l0 (l : List S28) (hm : l.length < 9223372036854775807) : ∀ k i : Nat, i + k = l.length → palioref05_Same.l0 (k + 1) l l (i : Int) = some true := by
  intro k
  induction k with
  | zero =>
    intro i hi
    unfold palioref05_Same.l0
    rw [if_neg (by omega)]
  | succ k ih =>
    intro i hi
    unfold palioref05_Same.l0
    have hw : wrap64 ((i : Int) + 1) = ((i + 1 : Nat) : Int) := by unfold wrap64; omega
    rw [if_pos (by omega), if_pos (by omega), if_pos (by omega), if_neg (by simp), hw]
    exact ih (i + 1) (by omega)
theorem same_f (l : List S28) (hm : l.length < 9223372036854775807) : palioref05_Same.f (l.length + 1) l l = some true := by
  unfold palioref05_Same.f
  rw [if_pos rfl]
  exact same_l0 l hm l.length 0 (by omega)
theorem same_calls (L : List En) (n : Nat) (hn : L.length = n) (hm : n < 9223372036854775807) (A0 A1 : Option Addr) (c0 c1 : Nat) (w : World) (h0 : Kd.C k28 w A0 n (L.map toS)) (g0 : n ≤ c0) (h1 : Kd.C k28 w A1 n (L.map toS)) (g1 : n ≤ c1) :
    Calls Try.prog 19 #[.slice A0 n c0, .slice A1 n c1] w fun e w' => e = .returned (.bool true) ∧ Below w.heap.size w w' := by
  have hl : (L.map toS).length = n := by rw [List.length_map]; exact hn
  have := palioref05_Same.calls _ A0 c0 (L.map toS) A1 c1 (L.map toS) true w (by rw [hl]; exact h0) (by omega) (by rw [hl]; exact h1) (by omega) (same_f _ (by omega))
  rw [hl] at this
  exact this.mono fun _ _ ⟨e1, e2⟩ => ⟨e1, e2.below⟩
end
section
/-- What an act answers, and which entries it leaves, does not hang on levels. -/
theorem doneP_fst (x : S39) (l l' : Int) (p p' : Pl2) (h1 : 1 ≤ l) (h2 : l ≤ 32) (h3 : 1 ≤ l') (h4 : l' ≤ 32) (hp : p.1 = p'.1) : (doneP x l p).1 = (doneP x l' p').1 ∧ (doneP x l p).2.1 = (doneP x l' p').2.1 := by
  unfold doneP insP delP cutP
  simp only [hp]
  by_cases a1 : x.f0 % 8 < 4
  · have n1 : ¬ (l < 1 ∨ 32 < l) := by omega
    have n2 : ¬ (l' < 1 ∨ 32 < l') := by omega
    rw [if_pos a1, if_pos a1, if_neg n1, if_neg n2]
    by_cases a2 : isin (fewE x.f1) p'.1 = true
    · rw [if_pos a2, if_pos a2]
      exact ⟨rfl, hp⟩
    · rw [if_neg a2, if_neg a2]
      exact ⟨rfl, rfl⟩
  rw [if_neg a1, if_neg a1]
  by_cases a3 : x.f0 % 8 < 6
  · rw [if_pos a3, if_pos a3]
    by_cases a2 : isin (fewE x.f1) p'.1 = true
    · rw [if_pos a2, if_pos a2]
      exact ⟨rfl, rfl⟩
    · rw [if_neg a2, if_neg a2]
      exact ⟨rfl, hp⟩
  rw [if_neg a3, if_neg a3]
  by_cases a4 : x.f0 % 8 = 6
  · rw [if_pos a4, if_pos a4]
    exact ⟨rfl, hp⟩
  · rw [if_neg a4, if_neg a4]
    exact ⟨rfl, rfl⟩
theorem rangeP_le (p : Pl2) (f t : Int) : (rangeP p f t).length ≤ p.1.length := by
  unfold rangeP
  rw [List.length_take, List.length_drop]
  omega
theorem rangeP_fst {p p' : Pl2} (h : p.1 = p'.1) (f t : Int) : rangeP p f t = rangeP p' f t := by
  unfold rangeP
  rw [h]
theorem lev_done (x : S39) (la lb : Int) (p1 p2 : Pl2) (hp : p1.1 = p2.1) (h1 : 1 ≤ la) (h2 : la ≤ 32) (h3 : 1 ≤ lb) (h4 : lb ≤ 32) (i : Nat) (hl : p1.1.length ≤ i) (hi : i < 120) :
    ∃ (ra : Int) (q1 q2 : Pl2), q1.1 = q2.1 ∧ q1.1.length ≤ i + 1 ∧
      (∀ w b F, Ls w b F p1 → Calls Try.prog 18 #[.pointer (some ⟨b, 0, none⟩), .agg #[.int .i64 x.f0, .string x.f1.f0, .int .i64 x.f1.f1, .int .i64 x.f2, .int .i64 x.f3, .int .i64 x.f4], .int .i64 la] w fun r w' => r = .returned (.int .i64 ra) ∧ After w b F q1 w') ∧
      (∀ w b F, Ls w b F p2 → Calls Try.prog 18 #[.pointer (some ⟨b, 0, none⟩), .agg #[.int .i64 x.f0, .string x.f1.f0, .int .i64 x.f1.f1, .int .i64 x.f2, .int .i64 x.f3, .int .i64 x.f4], .int .i64 lb] w fun r w' => r = .returned (.int .i64 ra) ∧ After w b F q2 w') := by
  obtain ⟨e1, e2⟩ := doneP_fst x la lb p1 p2 h1 h2 h3 h4 hp
  refine ⟨(doneP x la p1).1, (doneP x la p1).2, (doneP x lb p2).2, e2, Nat.le_trans (doneP_len _ _ _) (by omega), fun w b F h => done_calls h (by omega) x la, fun w b F h => ?_⟩
  rw [e1]
  exact done_calls h (by rw [← hp]; omega) x lb
theorem lv31_in (a : Int) : 1 ≤ lv31 a ∧ lv31 a ≤ 32 := by
  unfold lv31
  omega
/-- An act's cells. -/
def AtA (w : World) (ad : Addr) (x : S39) : Prop := w.cell? ad = some (.int .i64 x.f0) ∧ w.cell? ⟨ad.block, ad.off + 1, none⟩ = some (.string x.f1.f0) ∧ w.cell? ⟨ad.block, ad.off + 2, none⟩ = some (.int .i64 x.f1.f1) ∧
    w.cell? ⟨ad.block, ad.off + 3, none⟩ = some (.int .i64 x.f2) ∧ w.cell? ⟨ad.block, ad.off + 4, none⟩ = some (.int .i64 x.f3) ∧ w.cell? ⟨ad.block, ad.off + 5, none⟩ = some (.int .i64 x.f4)
theorem atA_of {w : World} {A : Option Addr} {n : Nat} {xs : List S39} (h : Kd.C k39 w A n xs) (i : Nat) (h1 : i < n) : ∃ ad, A = some ad ∧ AtA w (ad.add (i * 6)) (rdA xs i) := at_A h i h1
theorem AtA.below {w w' : World} {ad : Addr} {x : S39} (h : AtA w ad x) (hb : Below w.heap.size w w') : AtA w' ad x := by
  have cc : ∀ a v, w.cell? a = some v → w'.cell? a = some v := fun a v hv => (hb.cell (World.block_lt_of_cell? w _ hv)).trans hv
  exact ⟨cc _ _ h.1, cc _ _ h.2.1, cc _ _ h.2.2.1, cc _ _ h.2.2.2.1, cc _ _ h.2.2.2.2.1, cc _ _ h.2.2.2.2.2⟩
end
end Go.Proofs.Ytnlbdmiflihghaa.P
