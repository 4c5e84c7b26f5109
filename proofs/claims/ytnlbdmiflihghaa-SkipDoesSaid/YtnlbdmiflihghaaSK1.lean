/- How a list of levels lies in memory: its head, its nodes, their links; what stores leave of it. Conditions: each theorem names its own. -/
import Derived.Test.YtnlbdmiflihghaaPx0
import Derived.Test.YtnlbdmiflihghaaSKP
import Derived.Test.YtnlbdmiflihghaaSK0
import Derived.Outline
import Derived.WalkKit
import Derived.WalkSpells
import Derived.Lib.Hide
import Derived.RangeFuncNested
namespace Go.Proofs.Ytnlbdmiflihghaa.P
open Go.RowKit Go.Proofs.YtnlbdmiflihghaaW.PrintWords Go.Proofs.YtnlbdmiflihghaaW.PrintLast Go.Proofs.YtnlbdmiflihghaaW.PrintMore Go.Proofs.Ytnlbdmiflihghaa.SK

/-- A block of N cells, what is in them by their places. -/
structure Bk (W : World) (B : Nat) (T : TypeId) (N : Nat) (f : Nat → Value) : Prop where
  ex : ∃ cs : Array Value, W.heap[B]? = some (.cells cs T (0, 0)) ∧ cs.size = N ∧ ∀ j, j < N → cs[j]? = some (f j)
section
variable {W W' : World} {B : Nat} {T : TypeId} {N : Nat} {f g : Nat → Value}
theorem Bk.lt (h : Bk W B T N f) : B < W.heap.size := by
  obtain ⟨cs, h1, _⟩ := h.ex
  exact (Array.getElem?_eq_some_iff.1 h1).1
theorem Bk.cell (h : Bk W B T N f) {j : Nat} (hj : j < N) : W.cell? ⟨B, j, none⟩ = some (f j) := by
  obtain ⟨cs, h1, _, h3⟩ := h.ex
  simp [World.cell?, h1, h3 j hj]
theorem Bk.frozen (h : Bk W B T N f) (j : Nat) : W.frozen? ⟨B, j, none⟩ = false := by
  obtain ⟨cs, h1, _⟩ := h.ex
  simp [World.frozen?, h1]
theorem Bk.move (h : Bk W B T N f) (hm : W'.heap[B]? = W.heap[B]?) : Bk W' B T N f := by
  obtain ⟨cs, h1, h2⟩ := h.ex
  exact ⟨cs, hm.trans h1, h2⟩
theorem Bk.below (h : Bk W B T N f) (hb : Below W.heap.size W W') : Bk W' B T N f := h.move (hb.block B h.lt)
theorem Bk.drew (h : Bk W B T N f) : Bk W.drew B T N f := h.move rfl
theorem Bk.alloc (h : Bk W B T N f) (o : Obj) : Bk (W.alloc o) B T N f := h.below ((Below.refl _ _).alloc (Nat.le_refl _) _)
theorem Bk.far (h : Bk W B T N f) {B' : Nat} (hne : B ≠ B') (j : Nat) (v : Value) : Bk (W.setCell ⟨B', j, none⟩ v) B T N f := h.move (Below.heap_setCell W ⟨B', j, none⟩ v B hne)
theorem Bk.set (h : Bk W B T N f) (j : Nat) (v : Value) : Bk (W.setCell ⟨B, j, none⟩ v) B T N (fun i => if i = j then v else f i) := by
  obtain ⟨cs, h1, h2, h3⟩ := h.ex
  refine ⟨cs.setIfInBounds j v, ?_, by rw [Array.size_setIfInBounds, h2], fun i hi => ?_⟩
  · obtain ⟨hlt, hk⟩ := Array.getElem?_eq_some_iff.1 h1
    show (W.heap.modify B _)[B]? = _
    rw [Array.getElem?_eq_getElem (by rw [Array.size_modify]; exact hlt), Array.getElem_modify_self, hk]
    rfl
  · rw [Array.getElem?_setIfInBounds]
    by_cases e : i = j
    · subst e
      rw [if_pos rfl, if_pos (by omega), if_pos rfl]
    · rw [if_neg (by omega), if_neg e]
      exact h3 i hi
theorem Bk.ext (h : Bk W B T N f) (hg : ∀ j, j < N → f j = g j) : Bk W B T N g := by
  obtain ⟨cs, h1, h2, h3⟩ := h.ex
  exact ⟨cs, h1, h2, fun j hj => by rw [h3 j hj, hg j hj]⟩
theorem Bk.of (cs : Array Value) (h : W.heap[B]? = some (.cells cs T (0, 0))) (hs : cs.size = N) (hf : ∀ j, j < N → cs[j]? = some (f j)) : Bk W B T N f := ⟨cs, h, hs, hf⟩
end
/-- A pointer to a node, or none. -/
def ptr : Option Nat → Value
  | none => .pointer none
  | some c => .pointer (some ⟨c, 0, none⟩)
/-- A link's two cells. -/
def lnk (t : Nat → Option Nat × Int) (j : Nat) : Value := if (j - 2) % 2 = 0 then ptr (t ((j - 2) / 2)).1 else .int .i64 (t ((j - 2) / 2)).2
/-- A node's cells. -/
def nodeC (e : ByteArray × Int) (t : Nat → Option Nat × Int) (lv : Nat) (bk : Option Nat) (j : Nat) : Value :=
  if j = 0 then .string e.1 else if j = 1 then .int .i64 e.2 else if j < 66 then lnk t j else if j = 66 then .int .i64 lv else ptr bk
/-- The head's cells. -/
def headC (t : Nat → Option Nat × Int) (last : Option Nat) (H n : Nat) (j : Nat) : Value :=
  if j = 0 then .string ⟨#[]⟩ else if j = 1 then .int .i64 0 else if j < 66 then lnk t j else if j = 66 then .int .i64 0 else if j = 67 then .pointer none else if j = 68 then ptr last else if j = 69 then .int .i64 H else .int .i64 n
theorem lnk_to (t : Nat → Option Nat × Int) (i : Nat) : lnk t (2 + i * 2) = ptr (t i).1 := by
  unfold lnk
  rw [if_pos (by omega), show (2 + i * 2 - 2) / 2 = i by omega]
theorem lnk_span (t : Nat → Option Nat × Int) (i : Nat) : lnk t (2 + i * 2 + 1) = .int .i64 (t i).2 := by
  unfold lnk
  rw [if_neg (by omega), show (2 + i * 2 + 1 - 2) / 2 = i by omega]
/-- The list's state, by its blocks: entries, levels, links, links back, the last one, the greatest level, how many. -/
structure St where
  E : Nat → ByteArray × Int
  lev : Nat → Nat
  tow : Nat → Nat → Option Nat × Int
  bk : Nat → Option Nat
  last : Option Nat
  H : Nat
  n : Nat
structure Sk (W : World) (b : Nat) (S : List Nat) (σ : St) : Prop where
  head : Bk W b 64 71 (headC (σ.tow b) σ.last σ.H σ.n)
  node : ∀ c, c ∈ S → Bk W c 62 68 (nodeC (σ.E c) (σ.tow c) (σ.lev c) (σ.bk c))
  ne : b ∉ S
section
variable {W W' : World} {b : Nat} {S : List Nat} {σ : St}
theorem Sk.move (h : Sk W b S σ) (hm : ∀ k, k ∈ b :: S → W'.heap[k]? = W.heap[k]?) : Sk W' b S σ :=
  ⟨h.head.move (hm b List.mem_cons_self), fun c hc => (h.node c hc).move (hm c (List.mem_cons_of_mem _ hc)), h.ne⟩
theorem Sk.lt (h : Sk W b S σ) {c : Nat} (hc : c ∈ b :: S) : c < W.heap.size := by
  rcases List.mem_cons.mp hc with rfl | hc
  · exact h.head.lt
  · exact (h.node c hc).lt
theorem Sk.below (h : Sk W b S σ) (hb : Below W.heap.size W W') : Sk W' b S σ := h.move (fun k hk => hb.block k (h.lt hk))
theorem Sk.drew (h : Sk W b S σ) : Sk W.drew b S σ := h.move (fun _ _ => rfl)
theorem Sk.alloc (h : Sk W b S σ) (o : Obj) : Sk (W.alloc o) b S σ := h.below ((Below.refl _ _).alloc (Nat.le_refl _) _)
theorem Sk.far (h : Sk W b S σ) {B : Nat} (hB : B ∉ b :: S) (j : Nat) (v : Value) : Sk (W.setCell ⟨B, j, none⟩ v) b S σ :=
  h.move (fun k hk => Below.heap_setCell W ⟨B, j, none⟩ v k (fun e => hB (by rw [← show k = B from e]; exact hk)))
/-- A link's cells. -/
theorem Sk.to_ (h : Sk W b S σ) {c i : Nat} (hc : c ∈ b :: S) (hi : i < 32) : W.cell? ⟨c, 2 + i * 2, none⟩ = some (ptr (σ.tow c i).1) := by
  rcases List.mem_cons.mp hc with rfl | hc
  · rw [h.head.cell (by omega)]
    unfold headC
    rw [if_neg (by omega), if_neg (by omega), if_pos (by omega), lnk_to]
  · rw [(h.node c hc).cell (by omega)]
    unfold nodeC
    rw [if_neg (by omega), if_neg (by omega), if_pos (by omega), lnk_to]
theorem Sk.span_ (h : Sk W b S σ) {c i : Nat} (hc : c ∈ b :: S) (hi : i < 32) : W.cell? ⟨c, 2 + i * 2 + 1, none⟩ = some (.int .i64 (σ.tow c i).2) := by
  rcases List.mem_cons.mp hc with rfl | hc
  · rw [h.head.cell (by omega)]
    unfold headC
    rw [if_neg (by omega), if_neg (by omega), if_pos (by omega), lnk_span]
  · rw [(h.node c hc).cell (by omega)]
    unfold nodeC
    rw [if_neg (by omega), if_neg (by omega), if_pos (by omega), lnk_span]
theorem Sk.frozen (h : Sk W b S σ) {c : Nat} (hc : c ∈ b :: S) (j : Nat) : W.frozen? ⟨c, j, none⟩ = false := by
  rcases List.mem_cons.mp hc with rfl | hc
  · exact h.head.frozen j
  · exact (h.node c hc).frozen j
theorem Sk.member_ (h : Sk W b S σ) {c : Nat} (hc : c ∈ S) : W.cell? ⟨c, 0, none⟩ = some (.string (σ.E c).1) := (h.node c hc).cell (by omega)
theorem Sk.score_ (h : Sk W b S σ) {c : Nat} (hc : c ∈ S) : W.cell? ⟨c, 1, none⟩ = some (.int .i64 (σ.E c).2) := (h.node c hc).cell (by omega)
theorem Sk.lev_ (h : Sk W b S σ) {c : Nat} (hc : c ∈ S) : W.cell? ⟨c, 66, none⟩ = some (.int .i64 (σ.lev c)) := (h.node c hc).cell (by omega)
theorem Sk.bk_ (h : Sk W b S σ) {c : Nat} (hc : c ∈ S) : W.cell? ⟨c, 67, none⟩ = some (ptr (σ.bk c)) := (h.node c hc).cell (by omega)
theorem Sk.last_ (h : Sk W b S σ) : W.cell? ⟨b, 68, none⟩ = some (ptr σ.last) := h.head.cell (by omega)
theorem Sk.H_ (h : Sk W b S σ) : W.cell? ⟨b, 69, none⟩ = some (.int .i64 σ.H) := h.head.cell (by omega)
theorem Sk.n_ (h : Sk W b S σ) : W.cell? ⟨b, 70, none⟩ = some (.int .i64 σ.n) := h.head.cell (by omega)
/-! ### stores -/
def upd {β : Type} (t : Nat → Nat → β) (c i : Nat) (v : β) : Nat → Nat → β := fun c' i' => if c' = c ∧ i' = i then v else t c' i'
theorem upd_same {β : Type} (t : Nat → Nat → β) (c i : Nat) (v : β) : upd t c i v c i = v := if_pos ⟨rfl, rfl⟩
theorem upd_ne {β : Type} (t : Nat → Nat → β) {c i c' i' : Nat} (v : β) (h : ¬ (c' = c ∧ i' = i)) : upd t c i v c' i' = t c' i' := if_neg h
theorem lnk_set_to (t : Nat → Nat → Option Nat × Int) (c i : Nat) (o : Option Nat) (j : Nat) (hj : 2 ≤ j) : (if j = 2 + i * 2 then ptr o else lnk (t c) j) = lnk (upd t c i (o, (t c i).2) c) j := by
  by_cases e : j = 2 + i * 2
  · rw [if_pos e, e, lnk_to, upd_same]
  · rw [if_neg e]
    by_cases e2 : j = 2 + i * 2 + 1
    · rw [e2, lnk_span, lnk_span, upd_same]
    · unfold lnk
      rw [upd_ne _ _ (by omega)]
theorem lnk_set_span (t : Nat → Nat → Option Nat × Int) (c i : Nat) (s : Int) (j : Nat) (hj : 2 ≤ j) : (if j = 2 + i * 2 + 1 then .int .i64 s else lnk (t c) j) = lnk (upd t c i ((t c i).1, s) c) j := by
  by_cases e : j = 2 + i * 2 + 1
  · rw [if_pos e, e, lnk_span, upd_same]
  · rw [if_neg e]
    by_cases e2 : j = 2 + i * 2
    · rw [e2, lnk_to, lnk_to, upd_same]
    · unfold lnk
      rw [upd_ne _ _ (by omega)]
theorem upd_other {β : Type} (t : Nat → Nat → β) {c c' : Nat} (i : Nat) (v : β) (h : c' ≠ c) : upd t c i v c' = t c' := by
  funext i'
  exact upd_ne t v (fun e => h e.1)
theorem Sk.setTo (h : Sk W b S σ) {c i : Nat} (hc : c ∈ b :: S) (hi : i < 32) (o : Option Nat) : Sk (W.setCell ⟨c, 2 + i * 2, none⟩ (ptr o)) b S { σ with tow := upd σ.tow c i (o, (σ.tow c i).2) } := by
  rcases List.mem_cons.mp hc with rfl | hc
  · refine ⟨(h.head.set _ _).ext (fun j hj => ?_), fun c' hc' => ?_, h.ne⟩
    · unfold headC
      by_cases h0 : j = 0
      · rw [if_neg (by omega), if_pos h0, if_pos h0]
      by_cases h1 : j = 1
      · rw [if_neg (by omega), if_neg h0, if_pos h1, if_neg h0, if_pos h1]
      by_cases h2 : j < 66
      · rw [if_neg h0, if_neg h1, if_pos h2, if_neg h0, if_neg h1, if_pos h2]
        exact lnk_set_to _ _ _ _ _ (by omega)
      · rw [if_neg (by omega), if_neg h0, if_neg h1, if_neg h2, if_neg h0, if_neg h1, if_neg h2]
    · have hne : c' ≠ c := fun e => h.ne (e ▸ hc')
      have := (h.node c' hc').far hne (2 + i * 2) (ptr o)
      rw [← upd_other σ.tow i (o, (σ.tow c i).2) hne] at this
      exact this
  · have hne : b ≠ c := fun e => h.ne (e ▸ hc)
    refine ⟨?_, fun c' hc' => ?_, h.ne⟩
    · have := h.head.far hne (2 + i * 2) (ptr o)
      rw [← upd_other σ.tow i (o, (σ.tow c i).2) hne] at this
      exact this
    · by_cases e : c' = c
      · subst e
        refine ((h.node c' hc').set _ _).ext (fun j hj => ?_)
        unfold nodeC
        by_cases h0 : j = 0
        · rw [if_neg (by omega), if_pos h0, if_pos h0]
        by_cases h1 : j = 1
        · rw [if_neg (by omega), if_neg h0, if_pos h1, if_neg h0, if_pos h1]
        by_cases h2 : j < 66
        · rw [if_neg h0, if_neg h1, if_pos h2, if_neg h0, if_neg h1, if_pos h2]
          exact lnk_set_to _ _ _ _ _ (by omega)
        · rw [if_neg (by omega), if_neg h0, if_neg h1, if_neg h2, if_neg h0, if_neg h1, if_neg h2]
      · have := (h.node c' hc').far e (2 + i * 2) (ptr o)
        rw [← upd_other σ.tow i (o, (σ.tow c i).2) e] at this
        exact this
theorem Sk.setSpan (h : Sk W b S σ) {c i : Nat} (hc : c ∈ b :: S) (hi : i < 32) (s : Int) : Sk (W.setCell ⟨c, 2 + i * 2 + 1, none⟩ (.int .i64 s)) b S { σ with tow := upd σ.tow c i ((σ.tow c i).1, s) } := by
  rcases List.mem_cons.mp hc with rfl | hc
  · refine ⟨(h.head.set _ _).ext (fun j hj => ?_), fun c' hc' => ?_, h.ne⟩
    · unfold headC
      by_cases h0 : j = 0
      · rw [if_neg (by omega), if_pos h0, if_pos h0]
      by_cases h1 : j = 1
      · rw [if_neg (by omega), if_neg h0, if_pos h1, if_neg h0, if_pos h1]
      by_cases h2 : j < 66
      · rw [if_neg h0, if_neg h1, if_pos h2, if_neg h0, if_neg h1, if_pos h2]
        exact lnk_set_span _ _ _ _ _ (by omega)
      · rw [if_neg (by omega), if_neg h0, if_neg h1, if_neg h2, if_neg h0, if_neg h1, if_neg h2]
    · have hne : c' ≠ c := fun e => h.ne (e ▸ hc')
      have := (h.node c' hc').far hne (2 + i * 2 + 1) (.int .i64 s)
      rw [← upd_other σ.tow i ((σ.tow c i).1, s) hne] at this
      exact this
  · have hne : b ≠ c := fun e => h.ne (e ▸ hc)
    refine ⟨?_, fun c' hc' => ?_, h.ne⟩
    · have := h.head.far hne (2 + i * 2 + 1) (.int .i64 s)
      rw [← upd_other σ.tow i ((σ.tow c i).1, s) hne] at this
      exact this
    · by_cases e : c' = c
      · subst e
        refine ((h.node c' hc').set _ _).ext (fun j hj => ?_)
        unfold nodeC
        by_cases h0 : j = 0
        · rw [if_neg (by omega), if_pos h0, if_pos h0]
        by_cases h1 : j = 1
        · rw [if_neg (by omega), if_neg h0, if_pos h1, if_neg h0, if_pos h1]
        by_cases h2 : j < 66
        · rw [if_neg h0, if_neg h1, if_pos h2, if_neg h0, if_neg h1, if_pos h2]
          exact lnk_set_span _ _ _ _ _ (by omega)
        · rw [if_neg (by omega), if_neg h0, if_neg h1, if_neg h2, if_neg h0, if_neg h1, if_neg h2]
      · have := (h.node c' hc').far e (2 + i * 2 + 1) (.int .i64 s)
        rw [← upd_other σ.tow i ((σ.tow c i).1, s) e] at this
        exact this
theorem upd_upd {β : Type} (t : Nat → Nat → β) (c i : Nat) (v u : β) : upd (upd t c i v) c i u = upd t c i u := by
  funext c' i'
  unfold upd
  by_cases h : c' = c ∧ i' = i
  · rw [if_pos h, if_pos h]
  · rw [if_neg h, if_neg h, if_neg h]
/-- Both cells of a link. -/
theorem Sk.setLink (h : Sk W b S σ) {c i : Nat} (hc : c ∈ b :: S) (hi : i < 32) (o : Option Nat) (s : Int) :
    Sk ((W.setCell ⟨c, 2 + i * 2, none⟩ (ptr o)).setCell ⟨c, 2 + i * 2 + 1, none⟩ (.int .i64 s)) b S { σ with tow := upd σ.tow c i (o, s) } := by
  have := (h.setTo hc hi o).setSpan hc hi s
  simp only [upd_same, upd_upd] at this
  exact this
theorem Sk.setBk (h : Sk W b S σ) {c : Nat} (hc : c ∈ S) (o : Option Nat) : Sk (W.setCell ⟨c, 67, none⟩ (ptr o)) b S { σ with bk := fun c' => if c' = c then o else σ.bk c' } := by
  have hne : b ≠ c := fun e => h.ne (e ▸ hc)
  refine ⟨h.head.far hne _ _, fun c' hc' => ?_, h.ne⟩
  by_cases e : c' = c
  · subst e
    refine ((h.node c' hc').set _ _).ext (fun j hj => ?_)
    show _ = nodeC _ _ _ (if c' = c' then o else _) j
    rw [if_pos rfl]
    unfold nodeC
    by_cases h0 : j = 67
    · subst h0
      simp
    · rw [if_neg h0]
      by_cases h1 : j = 0
      · rw [if_pos h1, if_pos h1]
      by_cases h2 : j = 1
      · rw [if_neg h1, if_pos h2, if_neg h1, if_pos h2]
      by_cases h3 : j < 66
      · rw [if_neg h1, if_neg h2, if_pos h3, if_neg h1, if_neg h2, if_pos h3]
      · rw [if_neg h1, if_neg h2, if_neg h3, if_pos (by omega), if_neg h1, if_neg h2, if_neg h3, if_pos (by omega)]
  · have := (h.node c' hc').far e 67 (ptr o)
    show Bk _ _ _ _ (nodeC _ _ _ (if c' = c then o else σ.bk c'))
    rw [if_neg e]
    exact this
theorem Sk.setHead (h : Sk W b S σ) {j : Nat} {v : Value} {last : Option Nat} {H n : Nat} (hj : ∀ i, i < 71 → (if i = j then v else headC (σ.tow b) σ.last σ.H σ.n i) = headC (σ.tow b) last H n i) : Sk (W.setCell ⟨b, j, none⟩ v) b S { σ with last := last, H := H, n := n } :=
  ⟨(h.head.set j v).ext hj, fun c hc => (h.node c hc).far (fun e => h.ne (by rw [← e]; exact hc)) _ _, h.ne⟩
theorem Sk.setLast (h : Sk W b S σ) (o : Option Nat) : Sk (W.setCell ⟨b, 68, none⟩ (ptr o)) b S { σ with last := o } := by
  refine h.setHead (last := o) (H := σ.H) (n := σ.n) (fun i hi => ?_)
  unfold headC
  by_cases e : i = 68
  · subst e
    simp
  · rw [if_neg e, if_neg e, if_neg e]
theorem Sk.setH (h : Sk W b S σ) (H : Nat) : Sk (W.setCell ⟨b, 69, none⟩ (.int .i64 H)) b S { σ with H := H } := by
  refine h.setHead (last := σ.last) (H := H) (n := σ.n) (fun i hi => ?_)
  unfold headC
  by_cases e : i = 69
  · subst e
    simp
  · rw [if_neg e, if_neg e, if_neg e]
theorem Sk.setN (h : Sk W b S σ) (n : Nat) : Sk (W.setCell ⟨b, 70, none⟩ (.int .i64 n)) b S { σ with n := n } := by
  refine h.setHead (last := σ.last) (H := σ.H) (n := n) (fun i hi => ?_)
  unfold headC
  by_cases e : i = 70
  · subst e
    simp
  · have h5 : i < 66 ∨ i = 66 ∨ i = 67 ∨ i = 68 ∨ i = 69 := by omega
    rw [if_neg e]
    rcases h5 with h5 | rfl | rfl | rfl | rfl
    · by_cases h0 : i = 0
      · rw [if_pos h0, if_pos h0]
      by_cases h1 : i = 1
      · rw [if_neg h0, if_pos h1, if_neg h0, if_pos h1]
      rw [if_neg h0, if_neg h1, if_pos h5, if_neg h0, if_neg h1, if_pos h5]
    all_goals simp
end
end Go.Proofs.Ytnlbdmiflihghaa.P
