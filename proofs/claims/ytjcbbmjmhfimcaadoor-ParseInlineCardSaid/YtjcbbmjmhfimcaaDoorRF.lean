/- A range over a function whose iterator turns memory of its own between two rounds: what it tells each round of that memory. Conditions: each theorem names its own. -/
import Derived.RangeFuncNested
import Derived.Test.YtjcbbmjmhfimcaaDoorProg
namespace Go.Proofs.YtjcbbmjmhfimcaaDoor.RF
open Go.RowKit

/-- What an iterator promises that turns memory between the rounds: 'Ok' are its own steps, 'T' is what it tells a round. -/
def SeqTells {α : Type} (F : Fence) (n : Nat) (P : Program) (g : Nat) (lb : Array Value) (encs : α → Array Value) (Kp Ok : World → World → Prop) (T : List α → World → Prop) (S Sp : List α → Prop) (w : World) : Prop :=
  ∀ (l : Nat) (J Jx : List α → World → Prop) (W : World), Below w.heap.size w W → T [] W →
    (∀ s A B, J s A → Ok A B → J s B) → (∀ s A B, Jx s A → Ok A B → Jx s B) →
    (∀ pre x W1, J pre W1 → T (pre ++ [x]) W1 → YieldAt F (n - 1) P l (encs x) W1 fun e W' =>
      (e = .returned (.bool true) ∧ J (pre ++ [x]) W' ∧ Kp W1 W') ∨ (e = .returned (.bool false) ∧ Jx (pre ++ [x]) W')) →
    J [] W →
    CallsIn F n P g (#[.func (.yield l) #[] #[]] ++ lb) W fun e W' => (∃ v, e = .returned v) ∧ ((∃ xs, S xs ∧ T xs W' ∧ J xs W') ∨ (∃ pre, Sp pre ∧ Jx pre W'))

variable {F : Fence} {n : Nat} {P : Program}

theorem wpIn_rangeFunc_tells {α : Type} {g : Operand} {ps : Array Tmp} {assign body : Code} {Q : Exit → Act → World → Prop} {a : Act} {w : World}
    (hro : F.round = none) (h1 : 1 ≤ n) {gf : Nat} {lb : Array Value} (hg : a.eval g = .func (.func gf) #[] lb) (hFg : F.fn gf) (eg : ∀ args w, (callFunc gf args).run P w = .ok (.enter gf args) w)
    {encs : α → Array Value} {Kp Ok : World → World → Prop} {T : List α → World → Prop} {S Sp : List α → Prop} {w0 : World} (hseq : SeqTells F (n - 1) P gf lb encs Kp Ok T S Sp w0)
    (hKt : ∀ {A B C : World}, Kp A B → Kp B C → Kp A C) (hKb : ∀ (W : World) (l : Nat) (o o' : Obj), w.heap.size ≤ l → W.heap[l]? = some o → o.isCells = false → o.isWalk = false → Kp W (W.putObj l o')) (hb0 : Below w0.heap.size w0 w) (hps : ∀ x, (encs x).size = ps.size)
    (hOk : ∀ (A B : World) (k : Nat) (o : Obj), Ok A B → w.heap.size ≤ k → A.heap[k]? = some o → o.isCells = false → B.heap[k]? = some o)
    (hTo : OwnFrom w.heap.size T)
    (I : List α → World → Prop) (Ix : Code → List α → World → Prop) (hI : OwnFrom w.heap.size I) (hIx : ∀ c, OwnFrom w.heap.size (Ix c)) (hIOk : ∀ s A B, I s A → Ok A B → I s B) (hIxOk : ∀ c s A B, Ix c s A → Ok A B → Ix c s B)
    (h0 : I [] w) (hT0 : T [] w) (Ax : α → Act → World → Prop) (hAx : ∀ x a', OwnFrom w.heap.size (fun (_ : Unit) W => Ax x a' W))
    (hassign : ∀ (l : Nat) (pre : List α) (x : α) (W : World) (K : Act → World → Prop), I pre W → T (pre ++ [x]) W → (∀ a' W', KeepsFrom w.heap.size W W' → Kp W W' → T (pre ++ [x]) W' → I pre W' → Ax x a' W' → K a' W') →
      assign.wpIn (F.inRound l) (n - 1 - 1) P (Exit.then K (fun _ _ _ => False)) { tmps := (ps.zip (encs x)).foldl (fun t (p, v) => t.setIfInBounds p v) a.tmps, defers := [] } W)
    (hbody : ∀ (l : Nat) (pre : List α) (x : α) (a' : Act) (W : World), w.heap.size ≤ l → (∃ r, W.heap[l]? = some (.loop r)) → I pre W → T (pre ++ [x]) W → Ax x a' W → body.wpIn (F.inRound l) (n - 1 - 1) P (ownPostG w.heap.size Kp I Ix (pre ++ [x]) W) a' W)
    (hdone : ∀ (D : Nat) (xs : List α) (W : World), w.heap.size ≤ D → S xs → T xs W → I xs W → W.heap[D]? = some (.deferred (some [])) → Q .normal { a with defers := { target := .collected D, args := #[] } :: a.defers } W)
    (hstop : ∀ (D : Nat) (c : Code) (pre : List α) (W : World), w.heap.size ≤ D → Sp pre → Ix c pre W → W.heap[D]? = some (.deferred (some [])) → c.wpIn F n P Q { a with defers := { target := .collected D, args := #[] } :: a.defers } W) :
    (Code.rangeFunc g ps assign body).wpIn F n P Q a w := by
  refine wpIn_rangeFunc ?_
  intro fn hfn
  rw [hro]
  obtain ⟨rec, hrec⟩ : ∃ rec : LoopState → Option Code → Loop, rec = fun st pe => { state := st, pending := pe, fn, tmps := a.tmps, params := ps, assign, body, defers := w.heap.size } := ⟨_, rfl⟩
  obtain ⟨L, hLd⟩ : ∃ L, w.heap.size + 1 = L := ⟨_, rfl⟩
  obtain ⟨D, hD⟩ : ∃ D, w.heap.size = D := ⟨_, rfl⟩
  obtain ⟨V, hV⟩ : ∃ V, (w.alloc (.deferred (some []))).alloc (.loop (rec .ready none)) = V := ⟨_, rfl⟩
  have mL : V.heap[L]? = some (.loop (rec .ready none)) := by
    rw [← hV, ← hLd]; have := World.alloc_heap_new (w.alloc (.deferred (some []))) (.loop (rec .ready none)); rwa [World.size_alloc] at this
  have mD : V.heap[D]? = some (.deferred (some [])) := by
    rw [← hV, ← hD]; exact (Below.heap_alloc _ _ _ (by simp)).trans (World.alloc_heap_new w _)
  have iV : I [] V := by rw [← hV]; exact hI.alloc _ (hI.alloc _ h0)
  have tV : T [] V := by rw [← hV]; exact hTo.alloc _ (hTo.alloc _ hT0)
  have bV : Below w0.heap.size w0 V := by
    rw [← hV]; exact hb0.trans ((((Below.refl _ w).alloc (Nat.le_refl _) _).alloc (by simp) _).mono hb0.size)
  have hDL : w.heap.size ≤ D ∧ w.heap.size ≤ L ∧ D ≠ L := by omega
  refine ⟨L, [{ target := .collected D, args := #[] }], V, { target := .fn (.func gf) lb, args := #[.func (.yield L) #[] #[]] }, V, gf, #[.func (.yield L) #[] #[]] ++ lb, V, ?_, ?_, ?_, ?_, fun _ => h1, ?_⟩
  · rw [← hV, hrec, ← hLd, ← hD]; exact run_enterLoop_outer _ _ _ _ _
  · simp only [resolve, hg]
    simp [go_sem]
  · intro f' hf'; simp [Target.leads] at hf'; subst hf'; exact hFg
  · simp [invoke, go_sem, eg]
  -- the iterator is called with what the loop itself keeps beside the caller's own
  refine (hseq L (fun pre W => I pre W ∧ W.heap[L]? = some (.loop (rec .ready none)) ∧ W.heap[D]? = some (.deferred (some [])))
    (fun pre W => ∃ c, Ix c pre W ∧ W.heap[L]? = some (.loop (rec .done (some c))) ∧ W.heap[D]? = some (.deferred (some []))) V bV tV
    (fun s A B h ho => ⟨hIOk s A B h.1 ho, hOk A B L _ ho hDL.2.1 h.2.1 rfl, hOk A B D _ ho hDL.1 h.2.2 rfl⟩)
    (fun s A B h ho => by
      obtain ⟨c, hc, hl, hk⟩ := h
      exact ⟨c, hIxOk c s A B hc ho, hOk A B L _ ho hDL.2.1 hl rfl, hOk A B D _ ho hDL.1 hk rfl⟩) ?_ ⟨iV, mL, mD⟩).mono ?_
  · rintro pre x W ⟨hi, hl, hk⟩ ht
    have hy := run_yield (P := P) (args := encs x) hl (by rw [hrec]; exact hps x)
    rw [hrec] at hy
    refine ⟨fn, _, assign, body, hy, roundIn_of_wpIn hfn (hassign _ pre x W _ hi ht ?_)⟩
    clear hy
    intro a' X kX pX tX iX aX
    have lX := kX.same _ _ hDL.2.1 hl rfl
    have dX := kX.same _ _ hDL.1 hk rfl
    have zX : L < X.heap.size := (Array.getElem?_eq_some_iff.1 lX).1
    refine ⟨_, run_beginRound lX (by rw [hrec]), ?_⟩
    have lB : (X.putObj L (.loop { rec .ready none with state := .busy })).heap[L]? = some (.loop { rec .ready none with state := .busy }) := World.putObj_heap_same zX
    have dB : (X.putObj L (.loop { rec .ready none with state := .busy })).heap[D]? = some (.deferred (some [])) := (World.putObj_heap_other hDL.2.2).trans dX
    have pB : Kp X (X.putObj L (.loop { rec .ready none with state := .busy })) := hKb _ _ _ _ hDL.2.1 lX rfl rfl
    refine wpIn_mono (hbody _ pre x a' _ hDL.2.1 ⟨_, lB⟩ (hI.putObj _ iX hDL.2.1 lX rfl) (hTo.putObj _ tX hDL.2.1 lX rfl) ((hAx x a').putObj (s := ()) _ aX hDL.2.1 lX rfl)) ?_
    have ends : ∀ (j : Option Code) (Y : World), KeepsFrom w.heap.size (X.putObj L (.loop { rec .ready none with state := .busy })) Y →
        (Instr.endRound L j).run P Y = .ok (.bool j.isNone) (Y.putObj L (.loop (rec (if j.isNone then .ready else .done) j))) ∧
        Y.heap[L]? = some (.loop { rec .ready none with state := .busy }) ∧
        (Y.putObj L (.loop (rec (if j.isNone then .ready else .done) j))).heap[L]? = some (.loop (rec (if j.isNone then .ready else .done) j)) ∧
        (Y.putObj L (.loop (rec (if j.isNone then .ready else .done) j))).heap[D]? = some (.deferred (some [])) := fun j Y kY => by
      have lY := kY.same _ _ hDL.2.1 lB rfl
      have := run_endRound (P := P) j lY
      rw [hrec] at this ⊢
      exact ⟨this, by rw [hrec] at lY; exact lY, World.putObj_heap_same (Array.getElem?_eq_some_iff.1 lY).1, (World.putObj_heap_other hDL.2.2).trans (kY.same _ _ hDL.1 dB rfl)⟩
    rintro e a3 Y hp
    cases e with
    | normal =>
      obtain ⟨kY, pY, iY⟩ := hp
      obtain ⟨r1, r2, r3, r4⟩ := ends none Y kY
      exact ⟨_, _, r1, .inl ⟨rfl, ⟨hI.putObj _ iY hDL.2.1 r2 rfl, r3, r4⟩, hKt pX (hKt (hKt pB pY) (hKb _ _ _ _ hDL.2.1 r2 rfl rfl))⟩⟩
    | ret =>
      obtain ⟨kY, iY⟩ := hp
      obtain ⟨r1, r2, r3, r4⟩ := ends (some .ret) Y kY
      exact ⟨_, _, r1, .inr ⟨rfl, .ret, (hIx _).putObj _ iY hDL.2.1 r2 rfl, r3, r4⟩⟩
    | exit id =>
      obtain ⟨kY, iY⟩ := hp
      obtain ⟨r1, r2, r3, r4⟩ := ends (some (.exit id)) Y kY
      exact ⟨_, _, r1, .inr ⟨rfl, .exit id, (hIx _).putObj _ iY hDL.2.1 r2 rfl, r3, r4⟩⟩
    | goto t =>
      obtain ⟨kY, iY⟩ := hp
      obtain ⟨r1, r2, r3, r4⟩ := ends (some (.goto t)) Y kY
      exact ⟨_, _, r1, .inr ⟨rfl, .goto t, (hIx _).putObj _ iY hDL.2.1 r2 rfl, r3, r4⟩⟩
    | panic ch => exact hp.elim
    | outgrown => exact hp.elim
  · rintro e X ⟨⟨v, rfl⟩, (⟨xs, hS, hT, hi, hl, hk⟩ | ⟨pre, hSp, c, hi, hl, hk⟩)⟩
    · exact ⟨none, _, by have := run_endLoop (P := P) hl (by rw [hrec]; simp); rw [hrec] at this; exact this, hdone D xs _ hDL.1 hS (hTo.putObj _ hT hDL.2.1 hl rfl) (hI.putObj _ hi hDL.2.1 hl rfl) ((World.putObj_heap_other hDL.2.2).trans hk)⟩
    · exact ⟨some c, _, by have := run_endLoop (P := P) hl (by rw [hrec]; simp); rw [hrec] at this; exact this, hstop D c pre _ hDL.1 hSp ((hIx c).putObj _ hi hDL.2.1 hl rfl) ((World.putObj_heap_other hDL.2.2).trans hk)⟩
end Go.Proofs.YtjcbbmjmhfimcaaDoor.RF
