/- Rows of entries, of numbers that a function makes: what append leaves, how they read. Conditions: each theorem names its own. -/
import Derived.Test.YtnlbdmiflihghaaSK9
import Derived.Test.YtnlbdmiflihghaaSKT
namespace Go.Proofs.Ytnlbdmiflihghaa.P
open Go.RowKit Go.Shelf Go.Proofs.YtnlbdmiflihghaaW.PrintWords Go.Proofs.YtnlbdmiflihghaaW.PrintLast Go.Proofs.YtnlbdmiflihghaaW.PrintMore Go.Proofs.Ytnlbdmiflihghaa.SK
attribute [local go_sem] Oper.semAt_some

def toS (e : En) : S28 := ⟨e.1, e.2⟩
def cellsE (L : List En) : List Value := L.flatMap fun e => [.string e.1, .int .i64 e.2]
theorem cellsE_snoc (L : List En) (e : En) : cellsE (L ++ [e]) = cellsE L ++ [.string e.1, .int .i64 e.2] := by simp [cellsE]
theorem reps_E (w : World) : ∀ L : List En, Reps (k28.K w) 2 (L.map toS) (cellsE L)
  | [] => Reps.none _ _
  | e :: L => by
    have := Kd.reps_append ((Reps.none (k28.K w) 2).snoc (k28_mk w (toS e)) rfl) (reps_E w L)
    exact this
/-- A row of entries of the function's own. -/
def RowE (W : World) (base : Nat) (v : Value) (L : List En) : Prop := W.ownsRow base 28 2 v L.length (cellsE L)
def RowI (W : World) (base : Nat) (v : Value) (L : List Int) : Prop := W.ownsRow base 3 1 v L.length (L.map (Value.int .i64))
theorem rowE_nil (W : World) (base : Nat) : RowE W base (.slice none 0 0) [] := World.ownsRow_nil W base 28 2
theorem rowI_nil (W : World) (base : Nat) : RowI W base (.slice none 0 0) [] := World.ownsRow_nil W base 3 1
theorem RowE.reads {W : World} {base : Nat} {v : Value} {L : List En} (h : RowE W base v L) : ∃ A c, v = .slice A L.length c ∧ L.length ≤ c ∧ Kd.C k28 W A L.length (L.map toS) := by
  have h2 : OwnRow (k28.K W) 28 2 W base v (L.map toS) := ⟨cellsE L, by rw [List.length_map]; exact h, reps_E W L⟩
  obtain ⟨A, c, h3, h4, h5⟩ := OwnRow.reads h2
  rw [List.length_map] at h3 h4 h5
  exact ⟨A, c, h3, h4, h5⟩
theorem rows_own {W W' : World} {base size n : Nat} {e : TypeId} {v : Value} {xs : List Value} (h : W.ownsRow base e size v n xs) (hm : ∀ k, v.ownBlock = some k → W'.heap[k]? = W.heap[k]?) : W'.ownsRow base e size v n xs := by
  refine ⟨h.1, ?_⟩
  rcases h.2 with h2 | ⟨g, cap, cur, rfl, h3, h4, h5⟩
  · exact .inl h2
  · exact .inr ⟨g, cap, cur, rfl, h3, (hm g rfl).trans h4, h5⟩
theorem own_not {W : World} {base size n : Nat} {e : TypeId} {v : Value} {xs : List Value} (h : W.ownsRow base e size v n xs) {B : Nat} {T : TypeId} {N : Nat} {f : Nat → Value} (hB : Bk W B T N f) (hT : e ≠ T) : v.ownBlock ≠ some B := by
  rcases h.2 with ⟨rfl, _⟩ | ⟨g, cap, cur, rfl, h3, h4, h5⟩
  · intro hc; cases hc
  · intro hc
    have : g = B := by injection hc
    subst this
    obtain ⟨cs, h6, _⟩ := hB.ex
    rw [h4] at h6
    injection h6 with h6
    injection h6 with h6 h7
    exact hT h7
theorem info28' : (Try.prog.info? 28).map (fun i => (i.zero, i.size, i.bytes)) = some (some (.agg #[.string ⟨#[]⟩, .int .i64 0]), 2, 24) := by kernel_rfl
theorem info3' : (Try.prog.info? 3).map (fun i => (i.zero, i.size, i.bytes)) = some (some (.int .i64 0), 1, 8) := by kernel_rfl
theorem append_in28 {F : Fence} {n : Nat} {ops : Array Oper} {rest : List Oper} {o : Oper} {a : Act} {Q : Exit → Act → World → Prop} (W : World) (hg : o.guard = none) (x y : Operand) (ho : o.op = .call { callee := .builtin .append, args := #[x, y], argTypes := #[42, 42] })
    (base : Nat) (v : Value) (L : List En) (e : En) (hs : a.eval x = v) (hx : a.eval y = .slice (some ⟨W.heap.size, 0, none⟩) 1 1) (HO : RowE W base v L) (hbase : base ≤ W.heap.size) (hl : L.length ≤ 2000)
    (h : ∀ v1 w1, RowE w1 base v1 (L ++ [e]) → (W.alloc (.cells #[.string e.1, .int .i64 e.2] 28)).grownBy w1 v.ownBlock → wpListIn F n Try.prog ops Q rest (a.put o.dst v1) w1) :
    wpListIn F n Try.prog ops Q (o :: rest) a (W.alloc (.cells #[.string e.1, .int .i64 e.2] 28)) := by
  obtain ⟨i0, hi, hz0, hz1, hz2⟩ := info_parts info28'
  have hown2 := World.ownsRow.alloc HO (.cells #[.string e.1, .int .i64 e.2] 28)
  refine wpListIn_append_own _ hg x y 42 ho base 28 i0 _ 2 24 Try.underlying42 hi hz0 hz1 hz2 rfl (by decide) v L.length (cellsE L) hs hown2 ⟨W.heap.size, 0, none⟩ 1 1 [.string e.1, .int .i64 e.2] hx rfl ?_ (by simp [Value.oneCell']) (by unfold maxLen; omega) (by omega) (by simp; omega) ?_
  · intro j u hj
    match j with
    | 0 =>
      simp at hj
      subst hj
      simp [Addr.add]
    | 1 =>
      simp at hj
      subst hj
      simp [Addr.add]
    | j + 2 => simp at hj
  · intro v' w' r1 r2 _
    refine h v' w' ?_ r2
    unfold RowE
    rw [cellsE_snoc, List.length_append]
    exact r1
theorem append_28 {ops : Array Oper} {rest : List Oper} {o : Oper} {a : Act} {Q : Exit → Act → World → Prop} (W : World) (hg : o.guard = none) (x y : Operand) (ho : o.op = .call { callee := .builtin .append, args := #[x, y], argTypes := #[42, 42] })
    (base : Nat) (v : Value) (L : List En) (e : En) (hs : a.eval x = v) (hx : a.eval y = .slice (some ⟨W.heap.size, 0, none⟩) 1 1) (HO : RowE W base v L) (hbase : base ≤ W.heap.size) (hl : L.length ≤ 2000)
    (h : ∀ v1 w1, RowE w1 base v1 (L ++ [e]) → (W.alloc (.cells #[.string e.1, .int .i64 e.2] 28)).grownBy w1 v.ownBlock → wpList Try.prog ops Q rest (a.put o.dst v1) w1) :
    wpList Try.prog ops Q (o :: rest) a (W.alloc (.cells #[.string e.1, .int .i64 e.2] 28)) := by
  obtain ⟨i0, hi, hz0, hz1, hz2⟩ := info_parts info28'
  have hown2 := World.ownsRow.alloc HO (.cells #[.string e.1, .int .i64 e.2] 28)
  refine wpList_append_own _ hg x y 42 ho base 28 i0 _ 2 24 Try.underlying42 hi hz0 hz1 hz2 rfl (by decide) v L.length (cellsE L) hs hown2 ⟨W.heap.size, 0, none⟩ 1 1 [.string e.1, .int .i64 e.2] hx rfl ?_ (by simp [Value.oneCell']) (by unfold maxLen; omega) (by omega) (by simp; omega) ?_
  · intro j u hj
    match j with
    | 0 =>
      simp at hj
      subst hj
      simp [Addr.add]
    | 1 =>
      simp at hj
      subst hj
      simp [Addr.add]
    | j + 2 => simp at hj
  · intro v' w' r1 r2 _
    refine h v' w' ?_ r2
    unfold RowE
    rw [cellsE_snoc, List.length_append]
    exact r1
theorem append_3 {ops : Array Oper} {rest : List Oper} {o : Oper} {a : Act} {Q : Exit → Act → World → Prop} (W : World) (hg : o.guard = none) (x y : Operand) (ho : o.op = .call { callee := .builtin .append, args := #[x, y], argTypes := #[34, 34] })
    (base : Nat) (v : Value) (L : List Int) (e : Int) (hs : a.eval x = v) (hx : a.eval y = .slice (some ⟨W.heap.size, 0, none⟩) 1 1) (HO : RowI W base v L) (hbase : base ≤ W.heap.size) (hl : L.length ≤ 2000)
    (h : ∀ v1 w1, RowI w1 base v1 (L ++ [e]) → (W.alloc (.cells #[.int .i64 e] 3)).grownBy w1 v.ownBlock → wpList Try.prog ops Q rest (a.put o.dst v1) w1) :
    wpList Try.prog ops Q (o :: rest) a (W.alloc (.cells #[.int .i64 e] 3)) := by
  obtain ⟨i0, hi, hz0, hz1, hz2⟩ := info_parts info3'
  have hown2 := World.ownsRow.alloc HO (.cells #[.int .i64 e] 3)
  refine wpList_append_own _ hg x y 34 ho base 3 i0 _ 1 8 Try.underlying34 hi hz0 hz1 hz2 rfl (by decide) v L.length _ hs hown2 ⟨W.heap.size, 0, none⟩ 1 1 [.int .i64 e] hx rfl ?_ (by simp [Value.oneCell']) (by unfold maxLen; omega) (by omega) (by simp; omega) ?_
  · intro j u hj
    match j with
    | 0 =>
      simp at hj
      subst hj
      simp [Addr.add]
    | j + 1 => simp at hj
  · intro v' w' r1 r2 _
    refine h v' w' ?_ r2
    unfold RowI
    rw [List.map_append, List.length_append]
    exact r1
theorem reps_I (w : World) : ∀ L : List Int, Reps ((Kd.int .i64).K w) 1 L (L.map (Value.int .i64))
  | [] => Reps.none _ _
  | e :: L => by
    have := Kd.reps_append ((Reps.none ((Kd.int .i64).K w) 1).snoc (p := e) (c := [.int .i64 e]) rfl rfl) (reps_I w L)
    exact this
theorem RowI.reads {W : World} {base : Nat} {v : Value} {L : List Int} (h : RowI W base v L) : ∃ A c, v = .slice A L.length c ∧ L.length ≤ c ∧ Kd.C (Kd.int .i64) W A L.length L := by
  have hr := reps_I W
  have h2 : OwnRow ((Kd.int .i64).K W) 3 1 W base v L := ⟨_, h, hr L⟩
  obtain ⟨A, c, h3, h4, h5⟩ := OwnRow.reads h2
  exact ⟨A, c, h3, h4, h5⟩
/-- An append to a row of entries, as a run. -/
theorem append_run28 (W : World) (base : Nat) (v : Value) (L : List En) (e : En) (HO : RowE W base v L) (hbase : base ≤ W.heap.size) (hl : L.length ≤ 2000) :
    ∃ v1 w1, (Builtin.append_ #[42, 42] 42 #[v, .slice (some ⟨W.heap.size, 0, none⟩) 1 1]).run Try.prog (W.drew.alloc (.cells #[.string e.1, .int .i64 e.2] 28)) = .ok v1 w1 ∧ RowE w1 base v1 (L ++ [e]) ∧ (W.drew.alloc (.cells #[.string e.1, .int .i64 e.2] 28)).grownBy w1 v.ownBlock := by
  obtain ⟨i0, hi, hz0, hz1, hz2⟩ := info_parts info28'
  have hown2 := World.ownsRow.alloc (World.ownsRow.drew HO) (.cells #[.string e.1, .int .i64 e.2] 28)
  obtain ⟨v1, w1, h1, h2, h3, _⟩ := run_append_own (P := Try.prog) (W.drew.alloc (.cells #[.string e.1, .int .i64 e.2] 28)) base 42 42 28 i0 _ 2 24 Try.underlying42 hi hz0 hz1 hz2 rfl (by decide) v L.length (cellsE L) hown2 ⟨W.heap.size, 0, none⟩ 1 1 [.string e.1, .int .i64 e.2] rfl (fun j u hj => by
    match j with
    | 0 =>
      simp at hj
      subst hj
      rw [Addr.add_mid]
      exact cell_at (World.alloc_heap_new W.drew _) rfl
    | 1 =>
      simp at hj
      subst hj
      rw [Addr.add_mid]
      exact cell_at (World.alloc_heap_new W.drew _) rfl
    | j + 2 => simp at hj) (by simp [Value.oneCell']) (by unfold maxLen; omega) (by omega) (by rw [World.size_alloc]; show base ≤ W.heap.size + 1; omega)
  refine ⟨v1, w1, h1, ?_, h3⟩
  unfold RowE
  rw [cellsE_snoc, List.length_append]
  exact h2
end Go.Proofs.Ytnlbdmiflihghaa.P
