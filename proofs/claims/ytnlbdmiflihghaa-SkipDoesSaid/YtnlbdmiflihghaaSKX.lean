/- A region that draws its order, in a round of a range over a function: reads ahead, and at its end operations one behind the other. Conditions: each theorem names its own. -/
import Derived.StillTailTactics
import Derived.TacticsIn
import Derived.OrdersIn
import Derived.RangeFuncCalls
import Derived.Test.YtnlbdmiflihghaaSK0
import Derived.Test.YtnlbdmiflihghaaSK9
namespace Go
section
variable {n : Nat} {P : Program} {ops : Array Oper} {lp : Nat} {md : Region.Mode} {w : World}
/-- No operation is a defer statement. -/
def noDefer (ops : Array Oper) : Bool := ops.all fun o => match o.op with | .defer _ => false | _ => true
theorem noDefer_at (h : noDefer ops = true) {i : Nat} {o : Oper} (ho : ops[i]? = some o) : ∀ c, o.op ≠ .defer c := by
  intro c hc
  obtain ⟨hi, he⟩ := Array.getElem?_eq_some_iff.1 ho
  have := (Array.all_eq_true.1 h) i hi
  rw [he, hc] at this
  cases this
theorem wpOpIn_of_stOp (hnd : noDefer ops = true) {i : Nat} {a : Act} {K : Act → Prop} {K' : Act → World → Prop} {Q' : Exit → Act → World → Prop} (h : ∀ a, K a → K' a w) (hh : stOp P ops w i K a) : wpOpIn (Fence.wide.inRound lp) n P ops Q' i K' a w := by
  unfold stOp at hh
  unfold wpOpIn
  split
  · rename_i ho
    simp only [ho] at hh
    exact h _ hh
  · rename_i o ho
    simp only [ho] at hh
    split
    · rename_i hw
      simp only [hw, if_true] at hh
      refine ⟨fun _ _ => trivial, ?_⟩
      rw [Oper.semAt_eq _ _ _ (noDefer_at hnd ho)]
      unfold Oper.still at hh
      generalize (execOp a.eval o).run P w = r at *
      cases r with
      | ok m w' =>
        cases m <;> simp only [Oper.stillUpon] at hh
        case enter f args =>
          obtain ⟨rfl, v, hc, hn⟩ := hh
          refine ⟨fun hd => (by cases hd), (CallsIn.inRound lp (callsIn_wide.2 hc)).mono ?_⟩
          rintro e w'' ⟨rfl, rfl⟩
          exact h _ hn
        all_goals (obtain ⟨rfl, h2⟩ := hh; exact h _ h2)
      | halt x w' => simp only [Oper.stillUpon] at hh
    · rename_i hw
      simp only [hw] at hh
      exact ⟨fun _ _ => trivial, h _ hh⟩
theorem wpAnyIn_of_head (hnd : noDefer ops = true) {m g : Nat} {L : Array Bool → Act → Prop} {Q' : Exit → Act → World → Prop} (hL : ∀ listed a, L listed a → wpAnyIn (Fence.wide.inRound lp) n P md ops Q' g listed a w) :
    ∀ (f : Nat) (listed : Array Bool) (a : Act), wpAnyL P md ops w m L f listed a → wpAnyIn (Fence.wide.inRound lp) n P md ops Q' (f + g) listed a w
  | 0, listed, a, h => by rw [Nat.zero_add]; exact hL _ _ h
  | f + 1, listed, a, h => by
    rw [show f + 1 + g = (f + g) + 1 by omega]
    exact ⟨fun h0 => absurd h0 h.1, fun i hi => wpOpIn_of_stOp hnd (fun a' h' => wpAnyIn_of_head hnd hL f _ a' h') (h.2 i hi).2⟩
theorem wpAnyIn_of_seq {F : Fence} {Q' : Exit → Act → World → Prop} : ∀ (l : List Oper) (k : Nat) (listed : Array Bool) (a : Act) (w : World), (∀ j, l[j]? = ops[k + j]?) →
    Region.seqB md ops l.length k listed = true → wpListIn F n P ops Q' l a w → wpAnyIn F n P md ops Q' l.length listed a w
  | [], _, _, _, _, _, hB, h => ⟨by simpa [Region.seqB] using hB, h⟩
  | o :: l, k, listed, a, w, hl, hB, h => by
    have h0 : ops[k]? = some o := by simpa using (hl 0).symm
    simp only [List.length_cons, Region.seqB, Bool.and_eq_true, decide_eq_true_eq] at hB
    refine ⟨fun h1 => (by rw [hB.1] at h1; cases h1), fun i hi => ?_⟩
    rw [hB.1] at hi
    have hik : i = k := by simpa using hi
    subst hik
    have hw : wpOpIn F n P ops Q' i (wpListIn F n P ops Q' l) a w := by unfold wpOpIn; simp only [h0]; exact h
    exact wpOpIn_mono (fun a' w' h' => wpAnyIn_of_seq l (i + 1) _ a' w' (fun j => by have := hl (j + 1); simpa [Nat.add_assoc, Nat.add_comm 1 j] using this) hB.2 h') hw
theorem region_tail_round {id : Nat} {Q : Exit → Act → World → Prop} {a : Act} {l : List Oper} (m : Nat) (hnd : noDefer l.toArray = true) (hm : P.follows .mixedOrders = true) (hB : Region.lexTailB .any l.toArray m = true)
    (h : wpStill P l.toArray { w with drawn := w.drawn + 1 } (fun a' => wpListIn (Fence.wide.inRound lp) n P l.toArray Q (l.drop m) a' { w with drawn := w.drawn + 1 }) (l.take m) a) : (Code.region id l.toArray true).wpIn (Fence.wide.inRound lp) n P Q a w := by
  simp only [Region.lexTailB, Bool.and_eq_true, decide_eq_true_eq] at hB
  obtain ⟨⟨⟨⟨hsel, hn⟩, hs⟩, hc⟩, hlex⟩ := hB
  have hn' : m < l.length := by simpa using hn
  have htl : (l.take m).length = m := by simp; omega
  have hdl : (l.drop m).length = l.toArray.size - m := by simp
  have inv0 : HeadInv .any l.toArray m (Array.replicate l.toArray.size false) :=
    ⟨by simp, fun j oj _ hl => (by rw [getD_replicate_false] at hl; cases hl), fun t _ ht => getD_in (by simpa using ht) (getD_replicate_false _ _)⟩
  have H := wpAnyL_lex (md := .any) (g := l.toArray.size - m) hsel hs hc hn (l.take m) 0 _ a (fun j hj => by
    have hj' : j < m := by rw [htl] at hj; exact hj
    simp [hj']) (by simpa using htl) inv0 (by rw [htl]; exact hlex) h
  refine wpIn_region_any hm ?_
  have := wpAnyIn_of_head (lp := lp) (n := n) hnd (Q' := Q) (g := l.toArray.size - m) (fun listed a' hL => by
    have := wpAnyIn_of_seq (F := Fence.wide.inRound lp) (n := n) (md := .any) (Q' := Q) (l.drop m) m listed a' { w with drawn := w.drawn + 1 } (fun j => by simp [List.getElem?_drop]) (by rw [hdl]; exact hL.1) hL.2
    rwa [hdl] at this) _ _ _ H
  rw [htl, show m + (l.toArray.size - m) = l.toArray.size by omega] at this
  exact this
end
section
variable {F : Fence} {n : Nat} {P : Program} {ops : Array Oper} {l : Nat}
theorem upon_round {o : Oper} {a : Act} {K K' : Act → World → Prop} {Q : Exit → Act → World → Prop} (hK : ∀ a w, K a w → K' a w) (r : Result Next) (h : o.uponIn F n P a K Q r) : o.uponIn (F.inRound l) n P a K' Q r := by
  cases r with
  | halt x w' => cases x <;> exact h
  | ok x w' =>
    cases x with
    | value v => exact hK _ _ h
    | skip => exact hK _ _ h
    | defer d => exact hK _ _ h
    | enter f args =>
      refine ⟨h.1, (CallsIn.inRound l h.2).mono ?_⟩
      intro e w'' he
      cases e with
      | returned v => exact hK _ _ he
      | panicked c => exact he
      | outgrown => exact he
    | row r args => exact ⟨h.1, RowsIn.mono (F := F) h.2 (fun _ _ he => hK _ _ he)⟩
    | round l' f tmps assign body => exact ⟨h.1, RoundIn.mono (F := F) h.2 (fun e w'' he => by cases e <;> first | exact hK _ _ he | exact he)⟩
    | _ => exact h
theorem wpOp_round (hnd : noDefer ops = true) {i : Nat} {a : Act} {w : World} {K K' : Act → World → Prop} {Q : Exit → Act → World → Prop} (hK : ∀ a w, K a w → K' a w) (h : wpOpIn F n P ops Q i K a w) : wpOpIn (F.inRound l) n P ops Q i K' a w := by
  unfold wpOpIn at *
  split
  · rename_i ho; simp only [ho] at h; exact hK _ _ h
  · rename_i o ho
    simp only [ho] at h
    split
    · rename_i hw
      simp only [hw, if_true] at h
      obtain ⟨h1, h2⟩ := h
      refine ⟨h1, ?_⟩
      rw [Oper.semAt_eq _ _ _ (noDefer_at hnd ho)]
      rw [Oper.semAt_eq _ _ _ (noDefer_at hnd ho)] at h2
      exact upon_round hK _ h2
    · rename_i hw; simp only [hw] at h; exact ⟨h.1, hK _ _ h.2⟩
theorem wpAny_round {md : Region.Mode} (hnd : noDefer ops = true) {Q : Exit → Act → World → Prop} : ∀ (fuel : Nat) (listed : Array Bool) (a : Act) (w : World), wpAnyIn F n P md ops Q fuel listed a w → wpAnyIn (F.inRound l) n P md ops Q fuel listed a w
  | 0, _, _, _, h => h
  | fuel + 1, _, _, _, h => ⟨h.1, fun i hi => wpOp_round hnd (fun a' w' => wpAny_round hnd fuel _ a' w') (h.2 i hi)⟩
/-- A region that draws, in a round: as it is outside of one. -/
theorem region_any_round {id : Nat} {Q : Exit → Act → World → Prop} {a : Act} {w : World} {ops : Array Oper} (hnd : noDefer ops = true) (hm : P.follows .mixedOrders = true)
    (h : wpAnyIn F n P .any ops Q ops.size (Array.replicate ops.size false) a w.drew) : (Code.region id ops true).wpIn (F.inRound l) n P Q a w :=
  wpIn_region_any hm (wpAny_round hnd _ _ _ _ h)
/-- From an operation on, one behind the other. -/
theorem seq_from {md : Region.Mode} {Q : Exit → Act → World → Prop} {l0 : List Oper} {listed : Array Bool} {a : Act} {w : World} {m : Nat} (k : Nat) (hm : (l0.drop k).length = m) (hB : Region.seqB md l0.toArray m k listed = true) (h : wpListIn F n P l0.toArray Q (l0.drop k) a w) : wpAnyIn F n P md l0.toArray Q m listed a w := by
  subst hm
  exact wpAnyIn_of_seq (l0.drop k) k listed a w (fun j => by simp [List.getElem?_drop]) hB h
end
end Go

/- Rows of entries, of numbers that a function makes: what append leaves, how they read. Conditions: each theorem names its own. -/
namespace Go.Proofs.Ytnlbdmiflihghaa.P
open Go.RowKit Go.Shelf Go.Proofs.YtnlbdmiflihghaaW.PrintWords Go.Proofs.YtnlbdmiflihghaaW.PrintLast Go.Proofs.YtnlbdmiflihghaaW.PrintMore Go.Proofs.Ytnlbdmiflihghaa.SK
attribute [local go_sem] Oper.semAt_some

def toS (e : En) : S28 := ⟨e.1, e.2⟩
def cellsE (L : List En) : List Value := L.flatMap fun e => [.string e.1, .int .i64 e.2]
theorem cellsE_snoc (L : List En) (e : En) : cellsE (L ++ [e]) = cellsE L ++ [.string e.1, .int .i64 e.2] := by simp [cellsE]
theorem reps_E (w : World) : ∀ L : List En, Reps (k28.K w) 2 (L.map toS) (cellsE L)
  | [] => Reps.none _ _
  | e :: L => by
    have := Kd.reps_append ((Reps.none (k28.K w) 2).snoc (k28_mk w (toS e)) rfl) (reps_E w L)
    exact this
/-- A row of entries of the function's own. -/
def RowE (W : World) (base : Nat) (v : Value) (L : List En) : Prop := W.ownsRow base 28 2 v L.length (cellsE L)
def RowI (W : World) (base : Nat) (v : Value) (L : List Int) : Prop := W.ownsRow base 3 1 v L.length (L.map (Value.int .i64))
theorem rowE_nil (W : World) (base : Nat) : RowE W base (.slice none 0 0) [] := World.ownsRow_nil W base 28 2
theorem rowI_nil (W : World) (base : Nat) : RowI W base (.slice none 0 0) [] := World.ownsRow_nil W base 3 1
theorem RowE.reads {W : World} {base : Nat} {v : Value} {L : List En} (h : RowE W base v L) : ∃ A c, v = .slice A L.length c ∧ L.length ≤ c ∧ Kd.C k28 W A L.length (L.map toS) := by
  have h2 : OwnRow (k28.K W) 28 2 W base v (L.map toS) := ⟨cellsE L, by rw [List.length_map]; exact h, reps_E W L⟩
  obtain ⟨A, c, h3, h4, h5⟩ := OwnRow.reads h2
  rw [List.length_map] at h3 h4 h5
  exact ⟨A, c, h3, h4, h5⟩
theorem rows_own {W W' : World} {base size n : Nat} {e : TypeId} {v : Value} {xs : List Value} (h : W.ownsRow base e size v n xs) (hm : ∀ k, v.ownBlock = some k → W'.heap[k]? = W.heap[k]?) : W'.ownsRow base e size v n xs := by
  refine ⟨h.1, ?_⟩
  rcases h.2 with h2 | ⟨g, cap, cur, rfl, h3, h4, h5⟩
  · exact .inl h2
  · exact .inr ⟨g, cap, cur, rfl, h3, (hm g rfl).trans h4, h5⟩
theorem own_not {W : World} {base size n : Nat} {e : TypeId} {v : Value} {xs : List Value} (h : W.ownsRow base e size v n xs) {B : Nat} {T : TypeId} {N : Nat} {f : Nat → Value} (hB : Bk W B T N f) (hT : e ≠ T) : v.ownBlock ≠ some B := by
  rcases h.2 with ⟨rfl, _⟩ | ⟨g, cap, cur, rfl, h3, h4, h5⟩
  · intro hc; cases hc
  · intro hc
    have : g = B := by injection hc
    subst this
    obtain ⟨cs, h6, _⟩ := hB.ex
    rw [h4] at h6
    injection h6 with h6
    injection h6 with h6 h7
    exact hT h7
theorem info28' : (Try.prog.info? 28).map (fun i => (i.zero, i.size, i.bytes)) = some (some (.agg #[.string ⟨#[]⟩, .int .i64 0]), 2, 24) := by kernel_rfl
theorem info3' : (Try.prog.info? 3).map (fun i => (i.zero, i.size, i.bytes)) = some (some (.int .i64 0), 1, 8) := by kernel_rfl
theorem append_in28 {F : Fence} {n : Nat} {ops : Array Oper} {rest : List Oper} {o : Oper} {a : Act} {Q : Exit → Act → World → Prop} (W : World) (hg : o.guard = none) (x y : Operand) (ho : o.op = .call { callee := .builtin .append, args := #[x, y], argTypes := #[42, 42] })
    (base : Nat) (v : Value) (L : List En) (e : En) (hs : a.eval x = v) (hx : a.eval y = .slice (some ⟨W.heap.size, 0, none⟩) 1 1) (HO : RowE W base v L) (hbase : base ≤ W.heap.size) (hl : L.length ≤ 2000)
    (h : ∀ v1 w1, RowE w1 base v1 (L ++ [e]) → (W.alloc (.cells #[.string e.1, .int .i64 e.2] 28)).grownBy w1 v.ownBlock → wpListIn F n Try.prog ops Q rest (a.put o.dst v1) w1) :
    wpListIn F n Try.prog ops Q (o :: rest) a (W.alloc (.cells #[.string e.1, .int .i64 e.2] 28)) := by
  obtain ⟨i0, hi, hz0, hz1, hz2⟩ := info_parts info28'
  have hown2 := World.ownsRow.alloc HO (.cells #[.string e.1, .int .i64 e.2] 28)
  refine wpListIn_append_own _ hg x y 42 ho base 28 i0 _ 2 24 Try.underlying42 hi hz0 hz1 hz2 rfl (by decide) v L.length (cellsE L) hs hown2 ⟨W.heap.size, 0, none⟩ 1 1 [.string e.1, .int .i64 e.2] hx rfl ?_ (by simp [Value.oneCell']) (by unfold maxLen; omega) (by omega) (by simp; omega) ?_
  · intro j u hj
    match j with
    | 0 =>
      simp at hj
      subst hj
      simp [Addr.add]
    | 1 =>
      simp at hj
      subst hj
      simp [Addr.add]
    | j + 2 => simp at hj
  · intro v' w' r1 r2 _
    refine h v' w' ?_ r2
    unfold RowE
    rw [cellsE_snoc, List.length_append]
    exact r1
theorem append_28 {ops : Array Oper} {rest : List Oper} {o : Oper} {a : Act} {Q : Exit → Act → World → Prop} (W : World) (hg : o.guard = none) (x y : Operand) (ho : o.op = .call { callee := .builtin .append, args := #[x, y], argTypes := #[42, 42] })
    (base : Nat) (v : Value) (L : List En) (e : En) (hs : a.eval x = v) (hx : a.eval y = .slice (some ⟨W.heap.size, 0, none⟩) 1 1) (HO : RowE W base v L) (hbase : base ≤ W.heap.size) (hl : L.length ≤ 2000)
    (h : ∀ v1 w1, RowE w1 base v1 (L ++ [e]) → (W.alloc (.cells #[.string e.1, .int .i64 e.2] 28)).grownBy w1 v.ownBlock → wpList Try.prog ops Q rest (a.put o.dst v1) w1) :
    wpList Try.prog ops Q (o :: rest) a (W.alloc (.cells #[.string e.1, .int .i64 e.2] 28)) := by
  obtain ⟨i0, hi, hz0, hz1, hz2⟩ := info_parts info28'
  have hown2 := World.ownsRow.alloc HO (.cells #[.string e.1, .int .i64 e.2] 28)
  refine wpList_append_own _ hg x y 42 ho base 28 i0 _ 2 24 Try.underlying42 hi hz0 hz1 hz2 rfl (by decide) v L.length (cellsE L) hs hown2 ⟨W.heap.size, 0, none⟩ 1 1 [.string e.1, .int .i64 e.2] hx rfl ?_ (by simp [Value.oneCell']) (by unfold maxLen; omega) (by omega) (by simp; omega) ?_
  · intro j u hj
    match j with
    | 0 =>
      simp at hj
      subst hj
      simp [Addr.add]
    | 1 =>
      simp at hj
      subst hj
      simp [Addr.add]
    | j + 2 => simp at hj
  · intro v' w' r1 r2 _
    refine h v' w' ?_ r2
    unfold RowE
    rw [cellsE_snoc, List.length_append]
    exact r1
theorem append_3 {ops : Array Oper} {rest : List Oper} {o : Oper} {a : Act} {Q : Exit → Act → World → Prop} (W : World) (hg : o.guard = none) (x y : Operand) (ho : o.op = .call { callee := .builtin .append, args := #[x, y], argTypes := #[34, 34] })
    (base : Nat) (v : Value) (L : List Int) (e : Int) (hs : a.eval x = v) (hx : a.eval y = .slice (some ⟨W.heap.size, 0, none⟩) 1 1) (HO : RowI W base v L) (hbase : base ≤ W.heap.size) (hl : L.length ≤ 2000)
    (h : ∀ v1 w1, RowI w1 base v1 (L ++ [e]) → (W.alloc (.cells #[.int .i64 e] 3)).grownBy w1 v.ownBlock → wpList Try.prog ops Q rest (a.put o.dst v1) w1) :
    wpList Try.prog ops Q (o :: rest) a (W.alloc (.cells #[.int .i64 e] 3)) := by
  obtain ⟨i0, hi, hz0, hz1, hz2⟩ := info_parts info3'
  have hown2 := World.ownsRow.alloc HO (.cells #[.int .i64 e] 3)
  refine wpList_append_own _ hg x y 34 ho base 3 i0 _ 1 8 Try.underlying34 hi hz0 hz1 hz2 rfl (by decide) v L.length _ hs hown2 ⟨W.heap.size, 0, none⟩ 1 1 [.int .i64 e] hx rfl ?_ (by simp [Value.oneCell']) (by unfold maxLen; omega) (by omega) (by simp; omega) ?_
  · intro j u hj
    match j with
    | 0 =>
      simp at hj
      subst hj
      simp [Addr.add]
    | j + 1 => simp at hj
  · intro v' w' r1 r2 _
    refine h v' w' ?_ r2
    unfold RowI
    rw [List.map_append, List.length_append]
    exact r1
theorem reps_I (w : World) : ∀ L : List Int, Reps ((Kd.int .i64).K w) 1 L (L.map (Value.int .i64))
  | [] => Reps.none _ _
  | e :: L => by
    have := Kd.reps_append ((Reps.none ((Kd.int .i64).K w) 1).snoc (p := e) (c := [.int .i64 e]) rfl rfl) (reps_I w L)
    exact this
theorem RowI.reads {W : World} {base : Nat} {v : Value} {L : List Int} (h : RowI W base v L) : ∃ A c, v = .slice A L.length c ∧ L.length ≤ c ∧ Kd.C (Kd.int .i64) W A L.length L := by
  have hr := reps_I W
  have h2 : OwnRow ((Kd.int .i64).K W) 3 1 W base v L := ⟨_, h, hr L⟩
  obtain ⟨A, c, h3, h4, h5⟩ := OwnRow.reads h2
  exact ⟨A, c, h3, h4, h5⟩
/-- An append to a row of entries, as a run. -/
theorem append_run28 (W : World) (base : Nat) (v : Value) (L : List En) (e : En) (HO : RowE W base v L) (hbase : base ≤ W.heap.size) (hl : L.length ≤ 2000) :
    ∃ v1 w1, (Builtin.append_ #[42, 42] 42 #[v, .slice (some ⟨W.heap.size, 0, none⟩) 1 1]).run Try.prog (W.drew.alloc (.cells #[.string e.1, .int .i64 e.2] 28)) = .ok v1 w1 ∧ RowE w1 base v1 (L ++ [e]) ∧ (W.drew.alloc (.cells #[.string e.1, .int .i64 e.2] 28)).grownBy w1 v.ownBlock := by
  obtain ⟨i0, hi, hz0, hz1, hz2⟩ := info_parts info28'
  have hown2 := World.ownsRow.alloc (World.ownsRow.drew HO) (.cells #[.string e.1, .int .i64 e.2] 28)
  obtain ⟨v1, w1, h1, h2, h3, _⟩ := run_append_own (P := Try.prog) (W.drew.alloc (.cells #[.string e.1, .int .i64 e.2] 28)) base 42 42 28 i0 _ 2 24 Try.underlying42 hi hz0 hz1 hz2 rfl (by decide) v L.length (cellsE L) hown2 ⟨W.heap.size, 0, none⟩ 1 1 [.string e.1, .int .i64 e.2] rfl (fun j u hj => by
    match j with
    | 0 =>
      simp at hj
      subst hj
      rw [Addr.add_mid]
      exact cell_at (World.alloc_heap_new W.drew _) rfl
    | 1 =>
      simp at hj
      subst hj
      rw [Addr.add_mid]
      exact cell_at (World.alloc_heap_new W.drew _) rfl
    | j + 2 => simp at hj) (by simp [Value.oneCell']) (by unfold maxLen; omega) (by omega) (by rw [World.size_alloc]; show base ≤ W.heap.size + 1; omega)
  refine ⟨v1, w1, h1, ?_, h3⟩
  unfold RowE
  rw [cellsE_snoc, List.length_append]
  exact h2
end Go.Proofs.Ytnlbdmiflihghaa.P
