/- A range over a function whose iterator turns memory of its own between two rounds: what it tells each round of that memory. Conditions: each theorem names its own. -/
import Derived.RangeFuncNested
import Derived.Test.YtegmbgjolnbgpaaDoorProg
import Derived.OrdersIn
import Derived.OrdersHeld
import Derived.TacticsIn
import Derived.RangeFuncCalls
import Derived.Test.YtegmbgjolnbgpaaDoorCB
namespace Go.Proofs.YtegmbgjolnbgpaaDoor.RF
open Go.RowKit

/-- What an iterator promises that turns memory between the rounds: 'Ok' are its own steps, 'T' is what it tells a round. -/
def SeqTells {α : Type} (F : Fence) (n : Nat) (P : Program) (g : Nat) (lb : Array Value) (encs : α → Array Value) (Kp Ok : World → World → Prop) (T : List α → World → Prop) (S Sp : List α → Prop) (w : World) : Prop :=
  ∀ (l : Nat) (J Jx : List α → World → Prop) (W : World), Below w.heap.size w W → T [] W →
    (∀ s A B, J s A → Ok A B → J s B) → (∀ s A B, Jx s A → Ok A B → Jx s B) →
    (∀ pre x W1, J pre W1 → T (pre ++ [x]) W1 → YieldAt F (n - 1) P l (encs x) W1 fun e W' =>
      (e = .returned (.bool true) ∧ J (pre ++ [x]) W' ∧ Kp W1 W') ∨ (e = .returned (.bool false) ∧ Jx (pre ++ [x]) W')) →
    J [] W →
    CallsIn F n P g (#[.func (.yield l) #[] #[]] ++ lb) W fun e W' => (∃ v, e = .returned v) ∧ ((∃ xs, S xs ∧ T xs W' ∧ J xs W') ∨ (∃ pre, Sp pre ∧ Jx pre W'))

variable {F : Fence} {n : Nat} {P : Program}

theorem wpIn_rangeFunc_tells {α : Type} {g : Operand} {ps : Array Tmp} {assign body : Code} {Q : Exit → Act → World → Prop} {a : Act} {w : World}
    (hro : F.round = none) (h1 : 1 ≤ n) {gf : Nat} {lb : Array Value} (hg : a.eval g = .func (.func gf) #[] lb) (hFg : F.fn gf) (eg : ∀ args w, (callFunc gf args).run P w = .ok (.enter gf args) w)
    {encs : α → Array Value} {Kp Ok : World → World → Prop} {T : List α → World → Prop} {S Sp : List α → Prop} {w0 : World} (hseq : SeqTells F (n - 1) P gf lb encs Kp Ok T S Sp w0)
    (hKt : ∀ {A B C : World}, Kp A B → Kp B C → Kp A C) (hKb : ∀ (W : World) (l : Nat) (o o' : Obj), w.heap.size ≤ l → W.heap[l]? = some o → o.isCells = false → o.isWalk = false → Kp W (W.putObj l o')) (hb0 : Below w0.heap.size w0 w) (hps : ∀ x, (encs x).size = ps.size)
    (hOk : ∀ (A B : World) (k : Nat) (o : Obj), Ok A B → w.heap.size ≤ k → A.heap[k]? = some o → o.isCells = false → B.heap[k]? = some o)
    (hTo : OwnFrom w.heap.size T)
    (I : List α → World → Prop) (Ix : Code → List α → World → Prop) (hI : OwnFrom w.heap.size I) (hIx : ∀ c, OwnFrom w.heap.size (Ix c)) (hIOk : ∀ s A B, I s A → Ok A B → I s B) (hIxOk : ∀ c s A B, Ix c s A → Ok A B → Ix c s B)
    (h0 : I [] w) (hT0 : T [] w) (Ax : α → Act → World → Prop) (hAx : ∀ x a', OwnFrom w.heap.size (fun (_ : Unit) W => Ax x a' W))
    (hassign : ∀ (l : Nat) (pre : List α) (x : α) (W : World) (K : Act → World → Prop), I pre W → T (pre ++ [x]) W → (∀ a' W', KeepsFrom w.heap.size W W' → Kp W W' → T (pre ++ [x]) W' → I pre W' → Ax x a' W' → K a' W') →
      assign.wpIn (F.inRound l) (n - 1 - 1) P (Exit.then K (fun _ _ _ => False)) { tmps := (ps.zip (encs x)).foldl (fun t (p, v) => t.setIfInBounds p v) a.tmps, defers := [] } W)
    (hbody : ∀ (l : Nat) (pre : List α) (x : α) (a' : Act) (W : World), w.heap.size ≤ l → (∃ r, W.heap[l]? = some (.loop r)) → I pre W → T (pre ++ [x]) W → Ax x a' W → body.wpIn (F.inRound l) (n - 1 - 1) P (ownPostG w.heap.size Kp I Ix (pre ++ [x]) W) a' W)
    (hdone : ∀ (D : Nat) (xs : List α) (W : World), w.heap.size ≤ D → S xs → T xs W → I xs W → W.heap[D]? = some (.deferred (some [])) → Q .normal { a with defers := { target := .collected D, args := #[] } :: a.defers } W)
    (hstop : ∀ (D : Nat) (c : Code) (pre : List α) (W : World), w.heap.size ≤ D → Sp pre → Ix c pre W → W.heap[D]? = some (.deferred (some [])) → c.wpIn F n P Q { a with defers := { target := .collected D, args := #[] } :: a.defers } W) :
    (Code.rangeFunc g ps assign body).wpIn F n P Q a w := by
  refine wpIn_rangeFunc ?_
  intro fn hfn
  rw [hro]
  obtain ⟨rec, hrec⟩ : ∃ rec : LoopState → Option Code → Loop, rec = fun st pe => { state := st, pending := pe, fn, tmps := a.tmps, params := ps, assign, body, defers := w.heap.size } := ⟨_, rfl⟩
  obtain ⟨L, hLd⟩ : ∃ L, w.heap.size + 1 = L := ⟨_, rfl⟩
  obtain ⟨D, hD⟩ : ∃ D, w.heap.size = D := ⟨_, rfl⟩
  obtain ⟨V, hV⟩ : ∃ V, (w.alloc (.deferred (some []))).alloc (.loop (rec .ready none)) = V := ⟨_, rfl⟩
  have mL : V.heap[L]? = some (.loop (rec .ready none)) := by
    rw [← hV, ← hLd]; have := World.alloc_heap_new (w.alloc (.deferred (some []))) (.loop (rec .ready none)); rwa [World.size_alloc] at this
  have mD : V.heap[D]? = some (.deferred (some [])) := by
    rw [← hV, ← hD]; exact (Below.heap_alloc _ _ _ (by simp)).trans (World.alloc_heap_new w _)
  have iV : I [] V := by rw [← hV]; exact hI.alloc _ (hI.alloc _ h0)
  have tV : T [] V := by rw [← hV]; exact hTo.alloc _ (hTo.alloc _ hT0)
  have bV : Below w0.heap.size w0 V := by
    rw [← hV]; exact hb0.trans ((((Below.refl _ w).alloc (Nat.le_refl _) _).alloc (by simp) _).mono hb0.size)
  have hDL : w.heap.size ≤ D ∧ w.heap.size ≤ L ∧ D ≠ L := by omega
  refine ⟨L, [{ target := .collected D, args := #[] }], V, { target := .fn (.func gf) lb, args := #[.func (.yield L) #[] #[]] }, V, gf, #[.func (.yield L) #[] #[]] ++ lb, V, ?_, ?_, ?_, ?_, fun _ => h1, ?_⟩
  · rw [← hV, hrec, ← hLd, ← hD]; exact run_enterLoop_outer _ _ _ _ _
  · simp only [resolve, hg]
    simp [go_sem]
  · intro f' hf'; simp [Target.leads] at hf'; subst hf'; exact hFg
  · simp [invoke, go_sem, eg]
  -- the iterator is called with what the loop itself keeps beside the caller's own
  refine (hseq L (fun pre W => I pre W ∧ W.heap[L]? = some (.loop (rec .ready none)) ∧ W.heap[D]? = some (.deferred (some [])))
    (fun pre W => ∃ c, Ix c pre W ∧ W.heap[L]? = some (.loop (rec .done (some c))) ∧ W.heap[D]? = some (.deferred (some []))) V bV tV
    (fun s A B h ho => ⟨hIOk s A B h.1 ho, hOk A B L _ ho hDL.2.1 h.2.1 rfl, hOk A B D _ ho hDL.1 h.2.2 rfl⟩)
    (fun s A B h ho => by
      obtain ⟨c, hc, hl, hk⟩ := h
      exact ⟨c, hIxOk c s A B hc ho, hOk A B L _ ho hDL.2.1 hl rfl, hOk A B D _ ho hDL.1 hk rfl⟩) ?_ ⟨iV, mL, mD⟩).mono ?_
  · rintro pre x W ⟨hi, hl, hk⟩ ht
    have hy := run_yield (P := P) (args := encs x) hl (by rw [hrec]; exact hps x)
    rw [hrec] at hy
    refine ⟨fn, _, assign, body, hy, roundIn_of_wpIn hfn (hassign _ pre x W _ hi ht ?_)⟩
    clear hy
    intro a' X kX pX tX iX aX
    have lX := kX.same _ _ hDL.2.1 hl rfl
    have dX := kX.same _ _ hDL.1 hk rfl
    have zX : L < X.heap.size := (Array.getElem?_eq_some_iff.1 lX).1
    refine ⟨_, run_beginRound lX (by rw [hrec]), ?_⟩
    have lB : (X.putObj L (.loop { rec .ready none with state := .busy })).heap[L]? = some (.loop { rec .ready none with state := .busy }) := World.putObj_heap_same zX
    have dB : (X.putObj L (.loop { rec .ready none with state := .busy })).heap[D]? = some (.deferred (some [])) := (World.putObj_heap_other hDL.2.2).trans dX
    have pB : Kp X (X.putObj L (.loop { rec .ready none with state := .busy })) := hKb _ _ _ _ hDL.2.1 lX rfl rfl
    refine wpIn_mono (hbody _ pre x a' _ hDL.2.1 ⟨_, lB⟩ (hI.putObj _ iX hDL.2.1 lX rfl) (hTo.putObj _ tX hDL.2.1 lX rfl) ((hAx x a').putObj (s := ()) _ aX hDL.2.1 lX rfl)) ?_
    have ends : ∀ (j : Option Code) (Y : World), KeepsFrom w.heap.size (X.putObj L (.loop { rec .ready none with state := .busy })) Y →
        (Instr.endRound L j).run P Y = .ok (.bool j.isNone) (Y.putObj L (.loop (rec (if j.isNone then .ready else .done) j))) ∧
        Y.heap[L]? = some (.loop { rec .ready none with state := .busy }) ∧
        (Y.putObj L (.loop (rec (if j.isNone then .ready else .done) j))).heap[L]? = some (.loop (rec (if j.isNone then .ready else .done) j)) ∧
        (Y.putObj L (.loop (rec (if j.isNone then .ready else .done) j))).heap[D]? = some (.deferred (some [])) := fun j Y kY => by
      have lY := kY.same _ _ hDL.2.1 lB rfl
      have := run_endRound (P := P) j lY
      rw [hrec] at this ⊢
      exact ⟨this, by rw [hrec] at lY; exact lY, World.putObj_heap_same (Array.getElem?_eq_some_iff.1 lY).1, (World.putObj_heap_other hDL.2.2).trans (kY.same _ _ hDL.1 dB rfl)⟩
    rintro e a3 Y hp
    cases e with
    | normal =>
      obtain ⟨kY, pY, iY⟩ := hp
      obtain ⟨r1, r2, r3, r4⟩ := ends none Y kY
      exact ⟨_, _, r1, .inl ⟨rfl, ⟨hI.putObj _ iY hDL.2.1 r2 rfl, r3, r4⟩, hKt pX (hKt (hKt pB pY) (hKb _ _ _ _ hDL.2.1 r2 rfl rfl))⟩⟩
    | ret =>
      obtain ⟨kY, iY⟩ := hp
      obtain ⟨r1, r2, r3, r4⟩ := ends (some .ret) Y kY
      exact ⟨_, _, r1, .inr ⟨rfl, .ret, (hIx _).putObj _ iY hDL.2.1 r2 rfl, r3, r4⟩⟩
    | exit id =>
      obtain ⟨kY, iY⟩ := hp
      obtain ⟨r1, r2, r3, r4⟩ := ends (some (.exit id)) Y kY
      exact ⟨_, _, r1, .inr ⟨rfl, .exit id, (hIx _).putObj _ iY hDL.2.1 r2 rfl, r3, r4⟩⟩
    | goto t =>
      obtain ⟨kY, iY⟩ := hp
      obtain ⟨r1, r2, r3, r4⟩ := ends (some (.goto t)) Y kY
      exact ⟨_, _, r1, .inr ⟨rfl, .goto t, (hIx _).putObj _ iY hDL.2.1 r2 rfl, r3, r4⟩⟩
    | panic ch => exact hp.elim
    | outgrown => exact hp.elim
  · rintro e X ⟨⟨v, rfl⟩, (⟨xs, hS, hT, hi, hl, hk⟩ | ⟨pre, hSp, c, hi, hl, hk⟩)⟩
    · exact ⟨none, _, by have := run_endLoop (P := P) hl (by rw [hrec]; simp); rw [hrec] at this; exact this, hdone D xs _ hDL.1 hS (hTo.putObj _ hT hDL.2.1 hl rfl) (hI.putObj _ hi hDL.2.1 hl rfl) ((World.putObj_heap_other hDL.2.2).trans hk)⟩
    · exact ⟨some c, _, by have := run_endLoop (P := P) hl (by rw [hrec]; simp); rw [hrec] at this; exact this, hstop D c pre _ hDL.1 hSp ((hIx c).putObj _ hi hDL.2.1 hl rfl) ((World.putObj_heap_other hDL.2.2).trans hk)⟩
end Go.Proofs.YtegmbgjolnbgpaaDoor.RF
/- A region that draws its order, in a round of a range over a function: what reads is taken ahead of what makes memory, and the rest goes one behind the other. Conditions: each theorem names its own. -/
namespace Go
section
variable {n : Nat} {P : Program} {ops : Array Oper} {md : Region.Mode} {F : Fence}
/-- No operation is a defer statement. -/
def noDefer (ops : Array Oper) : Bool := ops.all fun o => match o.op with | .defer _ => false | _ => true
theorem noDefer_at (h : noDefer ops = true) {i : Nat} {o : Oper} (ho : ops[i]? = some o) : ∀ c, o.op ≠ .defer c := by
  intro c hc
  obtain ⟨hi, he⟩ := Array.getElem?_eq_some_iff.1 ho
  have := (Array.all_eq_true.1 h) i hi
  rw [he, hc] at this
  cases this
theorem upon_round {l : Nat} {o : Oper} {a : Act} {K K' : Act → World → Prop} {Q : Exit → Act → World → Prop} (hK : ∀ a w, K a w → K' a w) (r : Result Next) (h : o.uponIn F n P a K Q r) : o.uponIn (F.inRound l) n P a K' Q r := by
  cases r with
  | halt x w' => cases x <;> exact h
  | ok x w' =>
    cases x with
    | value v => exact hK _ _ h
    | skip => exact hK _ _ h
    | defer d => exact hK _ _ h
    | enter f args =>
      refine ⟨h.1, (CallsIn.inRound l h.2).mono ?_⟩
      intro e w'' he
      cases e with
      | returned v => exact hK _ _ he
      | panicked c => exact he
      | outgrown => exact he
    | row r args => exact ⟨h.1, RowsIn.mono (F := F) h.2 (fun _ _ he => hK _ _ he)⟩
    | round l' f tmps assign body => exact ⟨h.1, RoundIn.mono (F := F) h.2 (fun e w'' he => by cases e <;> first | exact hK _ _ he | exact he)⟩
    | _ => exact h
theorem wpOp_round {l : Nat} (hnd : noDefer ops = true) {i : Nat} {a : Act} {w : World} {K K' : Act → World → Prop} {Q : Exit → Act → World → Prop} (hK : ∀ a w, K a w → K' a w) (h : wpOpIn F n P ops Q i K a w) : wpOpIn (F.inRound l) n P ops Q i K' a w := by
  unfold wpOpIn at *
  split
  · rename_i ho; simp only [ho] at h; exact hK _ _ h
  · rename_i o ho
    simp only [ho] at h
    split
    · rename_i hw
      simp only [hw, if_true] at h
      obtain ⟨h1, h2⟩ := h
      refine ⟨h1, ?_⟩
      rw [Oper.semAt_eq _ _ _ (noDefer_at hnd ho)]
      rw [Oper.semAt_eq _ _ _ (noDefer_at hnd ho)] at h2
      exact upon_round hK _ h2
    · rename_i hw; simp only [hw] at h; exact ⟨h.1, hK _ _ h.2⟩
theorem wpAny_round {l : Nat} (hnd : noDefer ops = true) {Q : Exit → Act → World → Prop} : ∀ (fuel : Nat) (listed : Array Bool) (a : Act) (w : World), wpAnyIn F n P md ops Q fuel listed a w → wpAnyIn (F.inRound l) n P md ops Q fuel listed a w
  | 0, _, _, _, h => h
  | fuel + 1, _, _, _, h => ⟨h.1, fun i hi => wpOp_round hnd (fun a' w' => wpAny_round hnd fuel _ a' w') (h.2 i hi)⟩
/-- A region that draws, in a round: as it is outside of one. -/
theorem region_any_round {l id : Nat} {Q : Exit → Act → World → Prop} {a : Act} {w : World} (hnd : noDefer ops = true) (hm : P.follows .mixedOrders = true)
    (h : wpAnyIn F n P .any ops Q ops.size (Array.replicate ops.size false) a w.drew) : (Code.region id ops true).wpIn (F.inRound l) n P Q a w :=
  wpIn_region_any hm (wpAny_round hnd _ _ _ _ h)

variable {Q : Exit → Act → World → Prop} {S : World → Prop} {B : Nat → Bool}
/-- In every world that meets S the operation leaves a value and does nothing else; it calls nobody. -/
def YieldsG (P : Program) (ops : Array Oper) (S : World → Prop) (o : Oper) (v : Value) (a : Act) : Prop := YieldsIf P ops S o v a ∧ ∀ w, o.about P w a.eval = none
/-- Whatever order is picked, and S holds behind each operation that B names. -/
def wpAnyG (F : Fence) (n : Nat) (P : Program) (md : Region.Mode) (ops : Array Oper) (Q : Exit → Act → World → Prop) (S : World → Prop) (B : Nat → Bool) : Nat → Array Bool → Act → World → Prop
  | 0, listed, a, w => Region.ready md ops listed = [] ∧ Q .normal a w
  | fuel + 1, listed, a, w =>
    (Region.ready md ops listed = [] → Q .normal a w) ∧
    ∀ i ∈ Region.ready md ops listed, wpOpIn F n P ops Q i (fun a' w' => (B i = true → S w') ∧ wpAnyG F n P md ops Q S B fuel (listed.setIfInBounds i true) a' w') a w
theorem wpAnyIn_of_G : ∀ (fuel : Nat) (listed : Array Bool) (a : Act) (w : World), wpAnyG F n P md ops Q S B fuel listed a w → wpAnyIn F n P md ops Q fuel listed a w
  | 0, _, _, _, h => h
  | fuel + 1, _, _, _, h => ⟨h.1, fun i hi => wpOpIn_mono (fun a' w' h' => wpAnyIn_of_G fuel _ a' w' h'.2) (h.2 i hi)⟩
theorem YieldsG.wpOpIn {i : Nat} {o : Oper} {v : Value} {a : Act} (hro : F.round = none) (hi : ops[i]? = some o) (hy : YieldsG P ops S o v a)
    {K : Act → World → Prop} {w : World} (hS : S w) (h : K (a.put o.dst v) w) : wpOpIn F n P ops Q i K a w := by
  unfold Go.wpOpIn
  simp only [hi]
  have hab : ∀ f, o.about P w a.eval = some f → F.fn f := fun f hf => by rw [hy.2 w] at hf; cases hf
  rcases hy.1 with ⟨hw, hv⟩ | ⟨hw, rfl⟩
  · simp only [hw, if_true, Oper.wpIn, hro, Oper.semAt_none, hv w hS, Oper.uponIn]; exact ⟨hab, h⟩
  · simp only [hw, Bool.false_eq_true, if_false]; exact ⟨hab, h⟩
theorem YieldsG.of_same {o : Oper} {v : Value} {a a' : Act} (hy : YieldsG P ops S o v a) (he : execOp a'.eval o = execOp a.eval o)
    (hw : Region.wanted o (yielded ops a'.tmps) = Region.wanted o (yielded ops a.tmps)) (hb : ∀ w, o.about P w a'.eval = o.about P w a.eval) : YieldsG P ops S o v a' :=
  ⟨hy.1.of_same he hw, fun w => by rw [hb w]; exact hy.2 w⟩
theorem wpOpIn_putG {j : Nat} {oi oj : Oper} {v : Value} (hro : F.round = none) (hj : ops[j]? = some oj) (hap : oi.apart ops oj = true)
    (hsi : ∀ cs b, oi.op ≠ .select cs b) (hsj : ∀ cs b, oj.op ≠ .select cs b)
    (hQ : ∀ c a w, Q (.panic c) (a.put oi.dst v) w → Q (.panic c) a w) {K : Act → World → Prop} {a : Act} {w : World}
    (hy : YieldsG P ops S oi v a) (h : wpOpIn F n P ops Q j K (a.put oi.dst v) w) :
    wpOpIn F n P ops Q j (fun a' w' => YieldsG P ops S oi v a' ∧ K (a'.put oi.dst v) w') a w := by
  obtain ⟨h1, h2, h3⟩ := Oper.apart_spec hap
  have keep : ∀ (a : Act), YieldsG P ops S oi v a → ∀ u, YieldsG P ops S oi v (a.put oj.dst u) := fun a hy u =>
    hy.of_same (execOp_put oi hsi a oj.dst u h3) (wanted_put oi a oj.dst u h3) (fun w => about_put oi w a oj.dst u h3)
  have keepD : ∀ d, YieldsG P ops S oi v { a with defers := d :: a.defers } := fun d => hy.of_same rfl rfl (fun _ => rfl)
  unfold wpOpIn at *
  simp only [hj] at *
  rw [wanted_put oj a oi.dst v h1, about_put oj w a oi.dst v h1] at h
  split
  · rename_i hw
    simp only [hw, if_true] at h
    unfold Oper.wpIn at *
    rw [about_put oj w a oi.dst v h1] at h
    refine ⟨h.1, ?_⟩
    have h := h.2
    rw [hro, Oper.semAt_none, execOp_put oj hsj a oi.dst v h1] at h
    rw [hro, Oper.semAt_none]
    generalize (execOp a.eval oj).run P w = r at *
    cases r with
    | ok x w' =>
      cases x <;> simp only [Oper.uponIn] at h ⊢
      case value u => exact ⟨keep a hy u, by rw [← Act.put_comm a v u h2]; exact h⟩
      case skip => exact ⟨keep a hy _, by rw [← Act.put_comm a v undef h2]; exact h⟩
      case defer d =>
        refine ⟨keep _ (keepD d) _, ?_⟩
        rw [← Act.put_comm _ v undef h2, ← Act.put_defers]
        exact h
      case enter f args =>
        refine ⟨h.1, CallsIn.mono h.2 fun e w'' he => ?_⟩
        cases e with
        | returned u => exact ⟨keep a hy u, by rw [← Act.put_comm a v u h2]; exact he⟩
        | panicked c => exact hQ _ _ _ he
        | outgrown => exact he
      case row row args => exact ⟨h.1, RowsIn.mono h.2 fun u w'' he => ⟨keep a hy u, by rw [← Act.put_comm a v u h2]; exact he⟩⟩
      case round l f tmps assign body =>
        refine ⟨h.1, RoundIn.mono h.2 fun e w'' he => ?_⟩
        cases e with
        | returned u => exact ⟨keep a hy u, by rw [← Act.put_comm a v u h2]; exact he⟩
        | panicked c => exact hQ _ _ _ he
        | outgrown => exact he
    | halt x w' =>
      cases x <;> simp only [Oper.uponIn] at h ⊢
      case panic u => exact hQ _ _ _ h
  · rename_i hw
    simp only [hw] at h
    exact ⟨h.1, keep a hy _, by rw [← Act.put_comm a v undef h2]; exact h.2⟩
/-- What B does not name waits for i. -/
def waitsB (md : Region.Mode) (ops : Array Oper) (B : Nat → Bool) (i : Nat) : Bool := (List.range ops.size).all fun j => B j || ((ops[j]?.map fun o => o.after.any fun e => Region.binds md e && e.on == i).getD true)
theorem waitsB_spec {i j : Nat} {oj : Oper} (h : waitsB md ops B i = true) (hj : ops[j]? = some oj) (hB : B j = false) : ∃ e ∈ oj.after, Region.binds md e = true ∧ e.on = i := by
  have hlt : j < ops.size := (Array.getElem?_eq_some_iff.1 hj).1
  have := (List.all_eq_true.1 h) j (List.mem_range.2 hlt)
  rw [hB, hj] at this
  simp only [Bool.false_or, Option.map_some, Option.getD_some, Array.any_eq_true, Bool.and_eq_true, beq_iff_eq] at this
  obtain ⟨k, hk, h1, h2⟩ := this
  exact ⟨_, Array.getElem_mem hk, h1, h2⟩
theorem wpAnyG_first {i : Nat} {oi : Oper} {v : Value} (hro : F.round = none) (hi : ops[i]? = some oi) (hsel : ∀ (j : Nat) (o : Oper) cs b, ops[j]? = some o → o.op ≠ .select cs b) (hw : waitsB md ops B i = true)
    (hQ : ∀ c a w, Q (.panic c) (a.put oi.dst v) w → Q (.panic c) a w) :
    ∀ (fuel : Nat) (listed : Array Bool) (a : Act) (w : World),
      (∀ j oj, ops[j]? = some oj → j ≠ i → listed.getD j true = false → (∀ e ∈ oj.after, Region.binds md e = true → e.on ≠ i) → oi.apart ops oj = true) →
      i ∈ Region.ready md ops listed → YieldsG P ops S oi v a → S w →
      wpAnyG F n P md ops Q S B fuel (listed.setIfInBounds i true) (a.put oi.dst v) w → wpAnyG F n P md ops Q S B (fuel + 1) listed a w := by
  intro fuel
  induction fuel with
  | zero =>
    intro listed a w _ hr hy hS H
    refine ⟨fun h => (by rw [h] at hr; cases hr), fun j hj => ?_⟩
    by_cases hji : j = i
    · subst hji; exact hy.wpOpIn hro hi hS ⟨fun _ => hS, H⟩
    · have := ready_mono hj hji
      rw [H.1] at this
      cases this
  | succ fuel ih =>
    intro listed a w hfree hr hy hS H
    refine ⟨fun h => (by rw [h] at hr; cases hr), fun j hj => ?_⟩
    by_cases hji : j = i
    · subst hji; exact hy.wpOpIn hro hi hS ⟨fun _ => hS, H⟩
    · have h1 := H.2 j (ready_mono hj hji)
      obtain ⟨hjun, oj, hoj, hall⟩ := mem_ready.1 hj
      have hnot : ∀ e ∈ oj.after, Region.binds md e = true → e.on ≠ i := fun e he hb heq => by
        have h1 := hall e he hb
        have h0 := (mem_ready.1 hr).1
        rw [heq] at h1
        rcases Nat.lt_or_ge i listed.size with h' | h'
        · simp [h'] at h0 h1; rw [h0] at h1; cases h1
        · simp [Array.getElem?_eq_none h'] at h1
      have hBj : B j = true := by
        cases hb : B j with
        | true => rfl
        | false =>
          obtain ⟨e, he, h1, h2⟩ := waitsB_spec hw hoj hb
          exact absurd h2 (hnot e he h1)
      have h2 := wpOpIn_putG hro hoj (hfree j oj hoj hji hjun hnot) (fun cs b => hsel i oi cs b hi) (fun cs b => hsel j oj cs b hoj) hQ hy h1
      have hfree' : ∀ k ok, ops[k]? = some ok → k ≠ i → (listed.setIfInBounds j true).getD k true = false →
          (∀ e ∈ ok.after, Region.binds md e = true → e.on ≠ i) → oi.apart ops ok = true := fun k ok hk hki hun hno => by
        refine hfree k ok hk hki ?_ hno
        by_cases hjk : j = k
        · subst hjk; exact hjun
        · rw [getD_set_ne true hjk] at hun; exact hun
      refine wpOpIn_mono (fun a' w' h3 => ⟨h3.2.1, ih (listed.setIfInBounds j true) a' w' hfree' (ready_mono hr (Ne.symm hji)) h3.1 (h3.2.1 hBj) ?_⟩) h2
      rw [Array.setIfInBounds_comm _ _ hji]
      exact h3.2.2
/-- An operation that reads alone is taken first. -/
theorem wpAnyG_take {i : Nat} {oi : Oper} {v : Value} {fuel : Nat} {listed : Array Bool} {a : Act} {w : World} (hro : F.round = none) (hi : ops[i]? = some oi)
    (hs : Region.noSelect ops = true) (hf : Region.free md ops listed i = true) (hr : (Region.ready md ops listed).contains i = true) (hw : waitsB md ops B i = true)
    (hQ : ∀ c a w, Q (.panic c) (a.put oi.dst v) w → Q (.panic c) a w) (hwd : Region.wanted oi (yielded ops a.tmps) = true) (hab : ∀ w, oi.about P w a.eval = none) (hS : S w) (hy : ∀ w, S w → (execOp a.eval oi).run P w = .ok (.value v) w)
    (h : wpAnyG F n P md ops Q S B fuel (listed.setIfInBounds i true) (a.put oi.dst v) w) : wpAnyG F n P md ops Q S B (fuel + 1) listed a w :=
  wpAnyG_first hro hi (Region.noSelect_spec hs) hw hQ fuel listed a w (Region.free_spec hi hf) (by simpa using hr) ⟨.inl ⟨hwd, hy⟩, hab⟩ hS h
theorem upon_then {o : Oper} {a : Act} {K : Act → World → Prop} {K' : Act → World → Prop} (r : Result Next) (h : o.uponIn F n P a K (Exit.then K' Q) r) : o.uponIn F n P a K Q r := by
  cases r with
  | halt x w' => cases x <;> exact h
  | ok x w' =>
    cases x with
    | enter f args =>
      refine ⟨h.1, h.2.mono ?_⟩
      intro e w'' he
      cases e with
      | returned v => exact he
      | panicked c => exact he
      | outgrown => obtain ⟨a1, w1, h1⟩ := he; exact ⟨a1, w1, h1⟩
    | round l' f tmps assign body =>
      refine ⟨h.1, RoundIn.mono (F := F) h.2 ?_⟩
      intro e w'' he
      cases e with
      | returned v => exact he
      | panicked c => exact he
      | outgrown => obtain ⟨a1, w1, h1⟩ := he; exact ⟨a1, w1, h1⟩
    | _ => exact h
/-- Just one operation may come up: it goes as in a list. -/
theorem wpAnyG_one {fuel : Nat} {listed : Array Bool} {a : Act} {w : World} (i : Nat) {o : Oper} (ho : ops[i]? = some o) (hr : Region.ready md ops listed = [i])
    (h : wpListIn F n P ops (Exit.then (fun a' w' => (B i = true → S w') ∧ wpAnyG F n P md ops Q S B fuel (listed.setIfInBounds i true) a' w') Q) [o] a w) : wpAnyG F n P md ops Q S B (fuel + 1) listed a w := by
  refine ⟨fun h0 => (by rw [hr] at h0; cases h0), fun j hj => ?_⟩
  rw [hr] at hj
  obtain rfl := List.mem_singleton.1 hj
  unfold wpOpIn
  simp only [ho]
  unfold wpListIn at h
  split
  · rename_i hw
    rw [if_pos hw] at h
    exact ⟨h.1, upon_then _ h.2⟩
  · rename_i hw
    rw [if_neg hw] at h
    exact h
/-- One of two may come up. -/
theorem wpAnyG_two {fuel : Nat} {listed : Array Bool} {a : Act} {w : World} (i k : Nat) {o o' : Oper} (ho : ops[i]? = some o) (ho' : ops[k]? = some o') (hr : Region.ready md ops listed = [i, k])
    (h : wpListIn F n P ops (Exit.then (fun a' w' => (B i = true → S w') ∧ wpAnyG F n P md ops Q S B fuel (listed.setIfInBounds i true) a' w') Q) [o] a w)
    (h' : wpListIn F n P ops (Exit.then (fun a' w' => (B k = true → S w') ∧ wpAnyG F n P md ops Q S B fuel (listed.setIfInBounds k true) a' w') Q) [o'] a w) : wpAnyG F n P md ops Q S B (fuel + 1) listed a w := by
  refine ⟨fun h0 => (by rw [hr] at h0; cases h0), fun j hj => ?_⟩
  rw [hr] at hj
  have hj2 : j = i ∨ j = k := by simpa using hj
  have hop : ∀ (j : Nat) (o : Oper), ops[j]? = some o → wpListIn F n P ops (Exit.then (fun a' w' => (B j = true → S w') ∧ wpAnyG F n P md ops Q S B fuel (listed.setIfInBounds j true) a' w') Q) [o] a w →
      wpOpIn F n P ops Q j (fun a' w' => (B j = true → S w') ∧ wpAnyG F n P md ops Q S B fuel (listed.setIfInBounds j true) a' w') a w := by
    intro j o ho h
    unfold wpOpIn
    simp only [ho]
    unfold wpListIn at h
    split
    · rename_i hw
      rw [if_pos hw] at h
      exact ⟨h.1, upon_then _ h.2⟩
    · rename_i hw
      rw [if_neg hw] at h
      exact h
  rcases hj2 with rfl | rfl
  · exact hop _ o ho h
  · exact hop _ o' ho' h'
theorem G_of_seq : ∀ (l : List Oper) (k : Nat) (listed : Array Bool) (a : Act) (w : World), (∀ j, l[j]? = ops[k + j]?) →
    Region.seqB md ops l.length k listed = true → (∀ j, k ≤ j → B j = false) → wpListIn F n P ops Q l a w → wpAnyG F n P md ops Q S B l.length listed a w
  | [], _, _, _, _, _, hB, _, h => ⟨by simpa [Region.seqB] using hB, h⟩
  | o :: l, k, listed, a, w, hl, hB, hb, h => by
    have h0 : ops[k]? = some o := by simpa using (hl 0).symm
    simp only [List.length_cons, Region.seqB, Bool.and_eq_true, decide_eq_true_eq] at hB
    refine ⟨fun h1 => (by rw [hB.1] at h1; cases h1), fun i hi => ?_⟩
    rw [hB.1] at hi
    have hik : i = k := by simpa using hi
    subst hik
    have hw : wpOpIn F n P ops Q i (wpListIn F n P ops Q l) a w := by unfold wpOpIn; simp only [h0]; exact h
    exact wpOpIn_mono (fun a' w' h' => ⟨fun h1 => (by rw [hb i (Nat.le_refl _)] at h1; cases h1), G_of_seq l (i + 1) _ a' w' (fun j => by have := hl (j + 1); simpa [Nat.add_assoc, Nat.add_comm 1 j] using this) hB.2 (fun j hj => hb j (by omega)) h'⟩) hw
/-- From an operation on, one behind the other. -/
theorem wpAnyG_from {l0 : List Oper} {listed : Array Bool} {a : Act} {w : World} {m N : Nat} (k : Nat) (hm : (l0.drop k).length = m) (hB : Region.seqB md l0.toArray m k listed = true) (hN : N ≤ k) (h : wpListIn F n P l0.toArray Q (l0.drop k) a w) : wpAnyG F n P md l0.toArray Q S (fun j => decide (j < N)) m listed a w := by
  subst hm
  exact G_of_seq (l0.drop k) k listed a w (fun j => by simp [List.getElem?_drop]) hB (fun j hj => decide_eq_false (by omega)) h
end
end Go
