/- A region that draws its order, in a round of a range over a function: reads ahead, and at its end operations one behind the other. Conditions: each theorem names its own. -/
import Derived.StillTailTactics
import Derived.TacticsIn
import Derived.OrdersIn
import Derived.RangeFuncCalls
import Derived.Test.YtnlbdmiflihghaaSK0
namespace Go
section
variable {n : Nat} {P : Program} {ops : Array Oper} {lp : Nat} {md : Region.Mode} {w : World}
/-- No operation is a defer statement. -/
def noDefer (ops : Array Oper) : Bool := ops.all fun o => match o.op with | .defer _ => false | _ => true
theorem noDefer_at (h : noDefer ops = true) {i : Nat} {o : Oper} (ho : ops[i]? = some o) : ∀ c, o.op ≠ .defer c := by
  intro c hc
  obtain ⟨hi, he⟩ := Array.getElem?_eq_some_iff.1 ho
  have := (Array.all_eq_true.1 h) i hi
  rw [he, hc] at this
  cases this
theorem wpOpIn_of_stOp (hnd : noDefer ops = true) {i : Nat} {a : Act} {K : Act → Prop} {K' : Act → World → Prop} {Q' : Exit → Act → World → Prop} (h : ∀ a, K a → K' a w) (hh : stOp P ops w i K a) : wpOpIn (Fence.wide.inRound lp) n P ops Q' i K' a w := by
  unfold stOp at hh
  unfold wpOpIn
  split
  · rename_i ho
    simp only [ho] at hh
    exact h _ hh
  · rename_i o ho
    simp only [ho] at hh
    split
    · rename_i hw
      simp only [hw, if_true] at hh
      refine ⟨fun _ _ => trivial, ?_⟩
      rw [Oper.semAt_eq _ _ _ (noDefer_at hnd ho)]
      unfold Oper.still at hh
      generalize (execOp a.eval o).run P w = r at *
      cases r with
      | ok m w' =>
        cases m <;> simp only [Oper.stillUpon] at hh
        case enter f args =>
          obtain ⟨rfl, v, hc, hn⟩ := hh
          refine ⟨fun hd => (by cases hd), (CallsIn.inRound lp (callsIn_wide.2 hc)).mono ?_⟩
          rintro e w'' ⟨rfl, rfl⟩
          exact h _ hn
        all_goals (obtain ⟨rfl, h2⟩ := hh; exact h _ h2)
      | halt x w' => simp only [Oper.stillUpon] at hh
    · rename_i hw
      simp only [hw] at hh
      exact ⟨fun _ _ => trivial, h _ hh⟩
theorem wpAnyIn_of_head (hnd : noDefer ops = true) {m g : Nat} {L : Array Bool → Act → Prop} {Q' : Exit → Act → World → Prop} (hL : ∀ listed a, L listed a → wpAnyIn (Fence.wide.inRound lp) n P md ops Q' g listed a w) :
    ∀ (f : Nat) (listed : Array Bool) (a : Act), wpAnyL P md ops w m L f listed a → wpAnyIn (Fence.wide.inRound lp) n P md ops Q' (f + g) listed a w
  | 0, listed, a, h => by rw [Nat.zero_add]; exact hL _ _ h
  | f + 1, listed, a, h => by
    rw [show f + 1 + g = (f + g) + 1 by omega]
    exact ⟨fun h0 => absurd h0 h.1, fun i hi => wpOpIn_of_stOp hnd (fun a' h' => wpAnyIn_of_head hnd hL f _ a' h') (h.2 i hi).2⟩
theorem wpAnyIn_of_seq {F : Fence} {Q' : Exit → Act → World → Prop} : ∀ (l : List Oper) (k : Nat) (listed : Array Bool) (a : Act) (w : World), (∀ j, l[j]? = ops[k + j]?) →
    Region.seqB md ops l.length k listed = true → wpListIn F n P ops Q' l a w → wpAnyIn F n P md ops Q' l.length listed a w
  | [], _, _, _, _, _, hB, h => ⟨by simpa [Region.seqB] using hB, h⟩
  | o :: l, k, listed, a, w, hl, hB, h => by
    have h0 : ops[k]? = some o := by simpa using (hl 0).symm
    simp only [List.length_cons, Region.seqB, Bool.and_eq_true, decide_eq_true_eq] at hB
    refine ⟨fun h1 => (by rw [hB.1] at h1; cases h1), fun i hi => ?_⟩
    rw [hB.1] at hi
    have hik : i = k := by simpa using hi
    subst hik
    have hw : wpOpIn F n P ops Q' i (wpListIn F n P ops Q' l) a w := by unfold wpOpIn; simp only [h0]; exact h
    exact wpOpIn_mono (fun a' w' h' => wpAnyIn_of_seq l (i + 1) _ a' w' (fun j => by have := hl (j + 1); simpa [Nat.add_assoc, Nat.add_comm 1 j] using this) hB.2 h') hw
theorem region_tail_round {id : Nat} {Q : Exit → Act → World → Prop} {a : Act} {l : List Oper} (m : Nat) (hnd : noDefer l.toArray = true) (hm : P.follows .mixedOrders = true) (hB : Region.lexTailB .any l.toArray m = true)
    (h : wpStill P l.toArray { w with drawn := w.drawn + 1 } (fun a' => wpListIn (Fence.wide.inRound lp) n P l.toArray Q (l.drop m) a' { w with drawn := w.drawn + 1 }) (l.take m) a) : (Code.region id l.toArray true).wpIn (Fence.wide.inRound lp) n P Q a w := by
  simp only [Region.lexTailB, Bool.and_eq_true, decide_eq_true_eq] at hB
  obtain ⟨⟨⟨⟨hsel, hn⟩, hs⟩, hc⟩, hlex⟩ := hB
  have hn' : m < l.length := by simpa using hn
  have htl : (l.take m).length = m := by simp; omega
  have hdl : (l.drop m).length = l.toArray.size - m := by simp
  have inv0 : HeadInv .any l.toArray m (Array.replicate l.toArray.size false) :=
    ⟨by simp, fun j oj _ hl => (by rw [getD_replicate_false] at hl; cases hl), fun t _ ht => getD_in (by simpa using ht) (getD_replicate_false _ _)⟩
  have H := wpAnyL_lex (md := .any) (g := l.toArray.size - m) hsel hs hc hn (l.take m) 0 _ a (fun j hj => by
    have hj' : j < m := by rw [htl] at hj; exact hj
    simp [hj']) (by simpa using htl) inv0 (by rw [htl]; exact hlex) h
  refine wpIn_region_any hm ?_
  have := wpAnyIn_of_head (lp := lp) (n := n) hnd (Q' := Q) (g := l.toArray.size - m) (fun listed a' hL => by
    have := wpAnyIn_of_seq (F := Fence.wide.inRound lp) (n := n) (md := .any) (Q' := Q) (l.drop m) m listed a' { w with drawn := w.drawn + 1 } (fun j => by simp [List.getElem?_drop]) (by rw [hdl]; exact hL.1) hL.2
    rwa [hdl] at this) _ _ _ H
  rw [htl, show m + (l.toArray.size - m) = l.toArray.size by omega] at this
  exact this
end
section
variable {F : Fence} {n : Nat} {P : Program} {ops : Array Oper} {l : Nat}
theorem upon_round {o : Oper} {a : Act} {K K' : Act → World → Prop} {Q : Exit → Act → World → Prop} (hK : ∀ a w, K a w → K' a w) (r : Result Next) (h : o.uponIn F n P a K Q r) : o.uponIn (F.inRound l) n P a K' Q r := by
  cases r with
  | halt x w' => cases x <;> exact h
  | ok x w' =>
    cases x with
    | value v => exact hK _ _ h
    | skip => exact hK _ _ h
    | defer d => exact hK _ _ h
    | enter f args =>
      refine ⟨h.1, (CallsIn.inRound l h.2).mono ?_⟩
      intro e w'' he
      cases e with
      | returned v => exact hK _ _ he
      | panicked c => exact he
      | outgrown => exact he
    | row r args => exact ⟨h.1, RowsIn.mono (F := F) h.2 (fun _ _ he => hK _ _ he)⟩
    | round l' f tmps assign body => exact ⟨h.1, RoundIn.mono (F := F) h.2 (fun e w'' he => by cases e <;> first | exact hK _ _ he | exact he)⟩
    | _ => exact h
theorem wpOp_round (hnd : noDefer ops = true) {i : Nat} {a : Act} {w : World} {K K' : Act → World → Prop} {Q : Exit → Act → World → Prop} (hK : ∀ a w, K a w → K' a w) (h : wpOpIn F n P ops Q i K a w) : wpOpIn (F.inRound l) n P ops Q i K' a w := by
  unfold wpOpIn at *
  split
  · rename_i ho; simp only [ho] at h; exact hK _ _ h
  · rename_i o ho
    simp only [ho] at h
    split
    · rename_i hw
      simp only [hw, if_true] at h
      obtain ⟨h1, h2⟩ := h
      refine ⟨h1, ?_⟩
      rw [Oper.semAt_eq _ _ _ (noDefer_at hnd ho)]
      rw [Oper.semAt_eq _ _ _ (noDefer_at hnd ho)] at h2
      exact upon_round hK _ h2
    · rename_i hw; simp only [hw] at h; exact ⟨h.1, hK _ _ h.2⟩
theorem wpAny_round {md : Region.Mode} (hnd : noDefer ops = true) {Q : Exit → Act → World → Prop} : ∀ (fuel : Nat) (listed : Array Bool) (a : Act) (w : World), wpAnyIn F n P md ops Q fuel listed a w → wpAnyIn (F.inRound l) n P md ops Q fuel listed a w
  | 0, _, _, _, h => h
  | fuel + 1, _, _, _, h => ⟨h.1, fun i hi => wpOp_round hnd (fun a' w' => wpAny_round hnd fuel _ a' w') (h.2 i hi)⟩
/-- A region that draws, in a round: as it is outside of one. -/
theorem region_any_round {id : Nat} {Q : Exit → Act → World → Prop} {a : Act} {w : World} {ops : Array Oper} (hnd : noDefer ops = true) (hm : P.follows .mixedOrders = true)
    (h : wpAnyIn F n P .any ops Q ops.size (Array.replicate ops.size false) a w.drew) : (Code.region id ops true).wpIn (F.inRound l) n P Q a w :=
  wpIn_region_any hm (wpAny_round hnd _ _ _ _ h)
/-- From an operation on, one behind the other. -/
theorem seq_from {md : Region.Mode} {Q : Exit → Act → World → Prop} {l0 : List Oper} {listed : Array Bool} {a : Act} {w : World} {m : Nat} (k : Nat) (hm : (l0.drop k).length = m) (hB : Region.seqB md l0.toArray m k listed = true) (h : wpListIn F n P l0.toArray Q (l0.drop k) a w) : wpAnyIn F n P md l0.toArray Q m listed a w := by
  subst hm
  exact wpAnyIn_of_seq (l0.drop k) k listed a w (fun j => by simp [List.getElem?_drop]) hB h
end
end Go
