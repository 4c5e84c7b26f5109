/- The reference list's Cut. Conditions: each theorem names its own. -/
import Derived.Test.YtnlbdmiflihghaaSKV
namespace Go.Proofs.Ytnlbdmiflihghaa.P
open Go.RowKit Go.Shelf Go.Proofs.YtnlbdmiflihghaaW.PrintWords Go.Proofs.YtnlbdmiflihghaaW.PrintLast Go.Proofs.YtnlbdmiflihghaaW.PrintMore Go.Proofs.Ytnlbdmiflihghaa.SK
attribute [local go_sem] Oper.semAt_some
attribute [local go_sem high] max_mx min_mn

section
theorem add0 (A : Option Addr) (s : Nat) : A.map (·.add (0 * s)) = A := by
  cases A with
  | none => rfl
  | some a =>
    show some (a.add (0 * s)) = some a
    rw [Nat.zero_mul]
    congr 1
theorem cut28h (A : Option Addr) (n c T : Nat) (h2 : T ≤ n) (hc : n ≤ c) : ∀ W : World, (Instr.slice 42 (.slice A n c) none (some (.int .i64 (T : Int))) none).run Try.prog W = .ok (.slice A T c) W := by
  intro W
  obtain ⟨i0, hi, hz0, hz1, hz2⟩ := info_parts info28'
  have hel : Try.prog.elem 42 = 28 := by simp [Program.elem, Try.underlying42]
  rw [run_slice_h W 42 A n c (by rw [hel]; exact Try.underlying42) .i64 (T : Int) (by omega) (by omega), hel]
  simp [sizeOf, typeInfo, hi, sliced, Result.andThen]
  intro _
  have := add0 A 2
  simpa using this
theorem cut34h (A : Option Addr) (n c T : Nat) (h2 : T ≤ n) (hc : n ≤ c) : ∀ W : World, (Instr.slice 34 (.slice A n c) none (some (.int .i64 (T : Int))) none).run Try.prog W = .ok (.slice A T c) W := by
  intro W
  obtain ⟨i0, hi, hz0, hz1, hz2⟩ := info_parts info3'
  have hel : Try.prog.elem 34 = 3 := by simp [Program.elem, Try.underlying34]
  rw [run_slice_h W 34 A n c (by rw [hel]; exact Try.underlying34) .i64 (T : Int) (by omega) (by omega), hel]
  simp [sizeOf, typeInfo, hi, sliced, Result.andThen]
  intro _
  have := add0 A 1
  simpa using this
theorem cut28l (A : Option Addr) (n c F : Nat) (h2 : F ≤ n) : ∀ W : World, (Instr.slice 42 (.slice A n c) (some (.int .i64 (F : Int))) none none).run Try.prog W = .ok (.slice (if c = F then A else A.map (·.add (F * 2))) (n - F) (c - F)) W := by
  intro W
  obtain ⟨i0, hi, hz0, hz1, hz2⟩ := info_parts info28'
  have hel : Try.prog.elem 42 = 28 := by simp [Program.elem, Try.underlying42]
  rw [run_slice_l W 42 A n c (by rw [hel]; exact Try.underlying42) .i64 (F : Int) (by omega) (by omega), hel]
  simp [sizeOf, typeInfo, hi, hz1, sliced, Result.andThen]
theorem cut34l (A : Option Addr) (n c F : Nat) (h2 : F ≤ n) : ∀ W : World, (Instr.slice 34 (.slice A n c) (some (.int .i64 (F : Int))) none none).run Try.prog W = .ok (.slice (if c = F then A else A.map (·.add (F * 1))) (n - F) (c - F)) W := by
  intro W
  obtain ⟨i0, hi, hz0, hz1, hz2⟩ := info_parts info3'
  have hel : Try.prog.elem 34 = 3 := by simp [Program.elem, Try.underlying34]
  rw [run_slice_l W 34 A n c (by rw [hel]; exact Try.underlying34) .i64 (F : Int) (by omega) (by omega), hel]
  simp [sizeOf, typeInfo, hi, hz1, sliced, Result.andThen]
/-- The first ones of a row, and the rest. -/
theorem take28 {w : World} {A : Option Addr} {L : List En} (h : Kd.C k28 w A L.length (L.map toS)) {T : Nat} (hT : T ≤ L.length) : Kd.C k28 w A T ((L.take T).map toS) := by
  have hl : (L.map toS).length = L.length := List.length_map _
  have := Kd.C_take (k := k28) (xs := L.map toS) (m := T) (by rw [hl]; exact h) (by omega)
  rw [← List.map_take, List.length_map, List.length_take, Nat.min_eq_left hT] at this
  exact this
theorem drop28 {w : World} {A : Option Addr} {L : List En} {c : Nat} (h : Kd.C k28 w A L.length (L.map toS)) {T : Nat} (hT : T ≤ L.length) (hc : L.length ≤ c) : Kd.C k28 w (if c = T then A else A.map (·.add (T * 2))) (L.length - T) ((L.drop T).map toS) := by
  have hl : (L.map toS).length = L.length := List.length_map _
  have := Kd.C_drop (k := k28) (xs := L.map toS) (m := T) (c := c) (by rw [hl]; exact h) (by omega) (by omega)
  rw [← List.map_drop, List.length_map, List.length_drop] at this
  exact this
theorem take3 {w : World} {A : Option Addr} {L : List Int} (h : Kd.C (Kd.int .i64) w A L.length L) {T : Nat} (hT : T ≤ L.length) : Kd.C (Kd.int .i64) w A T (L.take T) := by
  have := Kd.C_take (k := Kd.int .i64) (m := T) h hT
  rw [List.length_take, Nat.min_eq_left hT] at this
  exact this
theorem drop3 {w : World} {A : Option Addr} {L : List Int} {c : Nat} (h : Kd.C (Kd.int .i64) w A L.length L) {T : Nat} (hT : T ≤ L.length) (hc : L.length ≤ c) : Kd.C (Kd.int .i64) w (if c = T then A else A.map (·.add (T * 1))) (L.length - T) (L.drop T) := by
  have := Kd.C_drop (k := Kd.int .i64) (m := T) (c := c) h hT hc
  rw [List.length_drop] at this
  exact this
/-- What an act on the reference list leaves. -/
def AfterR (m : Nat) (w : World) (r : Nat) (R : List Nat) (p' : Pl2) (w' : World) : Prop := ∃ R', Rf m w' r R' p' ∧ Foot R w w' ∧ ∀ c, c ∈ R' → c ∈ R ∨ w.heap.size ≤ c
/-- A row of entries, of numbers, of the function's own. -/
def OE (W : World) (base : Nat) (v : Value) (L : List En) : Prop := Kd.R k28 28 W base (fun _ => True) v (L.map toS)
def OI (W : World) (base : Nat) (v : Value) (L : List Int) : Prop := Kd.R (Kd.int .i64) 3 W base (fun _ => True) v L
theorem afterR_mk {m r : Nat} {w W : World} {R : List Nat} {p p' : Pl2} (h : Rf m w r R p) {vE vI : Value} (hc : W.heap[r]? = some (.cells #[vE, vI] 47 (0, 0))) (hE : OE W w.heap.size vE p'.1) (hI : OI W w.heap.size vI (p'.2.map Int.ofNat)) (hF : Foot R w W) : AfterR m w r R p' W := by
  have hmw : m ≤ w.heap.size := Nat.le_of_lt (Nat.lt_of_le_of_lt (h.ge r h.mem) (h.lt r h.mem))
  obtain ⟨iE, oE⟩ := Kd.R_own hE
  obtain ⟨iI, oI⟩ := Kd.R_own hI
  refine ⟨r :: (vE.ownBlock.toList ++ vI.ownBlock.toList), ⟨⟨vE, vI, hc, Kd.R_lower ⟨fun k hk => ?_, hE.2⟩ hmw, Kd.R_lower ⟨fun k hk => ?_, hI.2⟩ hmw⟩, List.mem_cons_self, fun k hk => ?_, fun k hk => ?_⟩, hF, fun k hk => ?_⟩
  · exact List.mem_cons_of_mem _ (List.mem_append_left _ (by rw [hk]; exact List.mem_singleton.mpr rfl))
  · exact List.mem_cons_of_mem _ (List.mem_append_right _ (by rw [hk]; exact List.mem_singleton.mpr rfl))
  · rcases List.mem_cons.mp hk with rfl | hk
    · exact Nat.lt_of_lt_of_le (h.lt _ h.mem) hF.size
    · rcases List.mem_append.mp hk with hk | hk
      · exact (own_at oE (Option.mem_toList.mp hk)).2
      · exact (own_at oI (Option.mem_toList.mp hk)).2
  · rcases List.mem_cons.mp hk with rfl | hk
    · exact h.ge _ h.mem
    · rcases List.mem_append.mp hk with hk | hk
      · exact Nat.le_trans hmw (own_at oE (Option.mem_toList.mp hk)).1
      · exact Nat.le_trans hmw (own_at oI (Option.mem_toList.mp hk)).1
  · rcases List.mem_cons.mp hk with rfl | hk
    · exact .inl h.mem
    · rcases List.mem_append.mp hk with hk | hk
      · exact .inr (own_at oE (Option.mem_toList.mp hk)).1
      · exact .inr (own_at oI (Option.mem_toList.mp hk)).1
/-- Another row has been written, or a block made. -/
theorem OI.other {W W1 : World} {base base' : Nat} {v u : Value} {L : List Int} {M : List En} (h : OI W base v L) (hu : OE W base' u M) (hg : W.grownBy W1 u.ownBlock) : OI W1 base v L := by
  obtain ⟨iE, oE⟩ := Kd.R_own hu
  obtain ⟨iI, oI⟩ := Kd.R_own h
  refine Kd.R_step (ok := fun k => v.ownBlock = some k) ⟨fun k hk => hk, h.2⟩ (fun k hk hlt => hg.block k hlt (fun he => ?_)) |> fun h' => ⟨fun _ _ => trivial, h'.2⟩
  obtain ⟨c1, h1⟩ := own_typed oI k hk
  obtain ⟨c2, h2⟩ := own_typed oE k he.symm
  rw [h1] at h2
  injection h2 with h2
  injection h2 with _ h2
  exact absurd h2 (by decide)
theorem OE.other {W W1 : World} {base base' : Nat} {v u : Value} {L : List En} {M : List Int} (h : OE W base v L) (hu : OI W base' u M) (hg : W.grownBy W1 u.ownBlock) : OE W1 base v L := by
  obtain ⟨iE, oE⟩ := Kd.R_own hu
  obtain ⟨iI, oI⟩ := Kd.R_own h
  refine Kd.R_step (ok := fun k => v.ownBlock = some k) ⟨fun k hk => hk, h.2⟩ (fun k hk hlt => hg.block k hlt (fun he => ?_)) |> fun h' => ⟨fun _ _ => trivial, h'.2⟩
  obtain ⟨c1, h1⟩ := own_typed oI k hk
  obtain ⟨c2, h2⟩ := own_typed oE k he.symm
  rw [h1] at h2
  injection h2 with h2
  injection h2 with _ h2
  exact absurd h2 (by decide)
end
section
variable {ops : Array Oper} {rest : List Oper} {o : Oper} {a : Act} {Q : Exit → Act → World → Prop}
theorem app28 {W : World} (base : Nat) (hgd : o.guard = none) (s x : Operand) (ho : o.op = .call { callee := .builtin .append, args := #[s, x], argTypes := #[42, 42] })
    (v : Value) (xs ys : List En) (A : Option Addr) (m c : Nat) (hs : a.eval s = v) (hx : a.eval x = .slice A m c) (HO : OE W base v xs) (HR : Kd.C k28 W A m (ys.map toS)) (hbase : base ≤ W.heap.size) (hl : xs.length + m ≤ 4000)
    (h : ∀ v1 w1, OE w1 base v1 (xs ++ ys) → Below base W w1 → W.grownBy w1 v.ownBlock → wpList Try.prog ops Q rest (a.put o.dst v1) w1) : wpList Try.prog ops Q (o :: rest) a W := by
  refine Kd.R_append_rows (w0 := W) k28 (Rr := k28.K W) base hgd s x 42 28 _ 24 ho Try.underlying42 info28' rfl (by decide) (by decide) v (xs.map toS) (ys.map toS) A m c (fun _ => True) (fun _ => False) hs hx HO HR (fun _ _ h => h) (fun _ h => h.elim) (fun _ _ => trivial) (Below.refl _ _) hbase (by rw [List.length_map]; omega) ?_
  intro v1 w1 h1 h2 h3 _
  rw [← List.map_append] at h1
  exact h v1 w1 h1 h2 h3
theorem app3 {W : World} (base : Nat) (hgd : o.guard = none) (s x : Operand) (ho : o.op = .call { callee := .builtin .append, args := #[s, x], argTypes := #[34, 34] })
    (v : Value) (xs ys : List Int) (A : Option Addr) (m c : Nat) (hs : a.eval s = v) (hx : a.eval x = .slice A m c) (HO : OI W base v xs) (HR : Kd.C (Kd.int .i64) W A m ys) (hbase : base ≤ W.heap.size) (hl : xs.length + m ≤ 4000)
    (h : ∀ v1 w1, OI w1 base v1 (xs ++ ys) → Below base W w1 → W.grownBy w1 v.ownBlock → wpList Try.prog ops Q rest (a.put o.dst v1) w1) : wpList Try.prog ops Q (o :: rest) a W := by
  refine Kd.R_append_rows (w0 := W) (Kd.int .i64) (Rr := (Kd.int .i64).K W) base hgd s x 34 3 _ 8 ho Try.underlying34 info3' rfl (by decide) (by decide) v xs ys A m c (fun _ => True) (fun _ => False) hs hx HO HR (fun _ _ h => h) (fun _ h => h.elim) (fun _ _ => trivial) (Below.refl _ _) hbase (by omega) ?_
  intro v1 w1 h1 h2 h3 _
  exact h v1 w1 h1 h2 h3
theorem OE.reads {W : World} {base : Nat} {v : Value} {L : List En} (h : OE W base v L) : ∃ A c, v = .slice A L.length c ∧ L.length ≤ c ∧ Kd.C k28 W A L.length (L.map toS) := by
  obtain ⟨A, c, h1, h2, h3⟩ := Kd.R_reads h
  rw [List.length_map] at h1 h2 h3
  exact ⟨A, c, h1, h2, h3⟩
theorem OI.reads {W : World} {base : Nat} {v : Value} {L : List Int} (h : OI W base v L) : ∃ A c, v = .slice A L.length c ∧ L.length ≤ c ∧ Kd.C (Kd.int .i64) W A L.length L := Kd.R_reads h
theorem oe_nil (W : World) (base : Nat) : OE W base (.slice none 0 0) [] := Kd.R_nil _ _ _ _ _
theorem oi_nil (W : World) (base : Nat) : OI W base (.slice none 0 0) [] := Kd.R_nil _ _ _ _ _
end
end Go.Proofs.Ytnlbdmiflihghaa.P

/- The reference list's Cut. Conditions: each theorem names its own. -/
namespace Go.Proofs.Ytnlbdmiflihghaa.P
open Go.RowKit Go.Shelf Go.Proofs.YtnlbdmiflihghaaW.PrintWords Go.Proofs.YtnlbdmiflihghaaW.PrintLast Go.Proofs.YtnlbdmiflihghaaW.PrintMore Go.Proofs.Ytnlbdmiflihghaa.SK
attribute [local go_sem] Oper.semAt_some
attribute [local go_sem high] max_mx min_mn

section
theorem delN_eq {α : Type} (A : Nat) (L : List α) (hA : A ≤ L.length) : ∀ n, delN A n L = L.take A ++ L.drop (A + n)
  | 0 => by
    show L = _
    rw [Nat.add_zero, List.take_append_drop]
  | n + 1 => by
    show (delN A n L).eraseIdx A = _
    have hl : (L.take A).length = A := by rw [List.length_take]; omega
    rw [delN_eq A L hA n, List.eraseIdx_append_of_length_le (by omega), hl, Nat.sub_self, List.eraseIdx_zero, List.tail_drop]
    rfl
theorem Rf.blk {m r : Nat} {w : World} {R : List Nat} {p : Pl2} (h : Rf m w r R p) : ∃ A c A' c', w.heap[r]? = some (.cells #[.slice A p.1.length c, .slice A' p.2.length c'] 47 (0, 0)) ∧ p.1.length ≤ c ∧ p.2.length ≤ c' ∧ Kd.R k28 28 w m (· ∈ R) (.slice A p.1.length c) (p.1.map toS) ∧ Kd.R (Kd.int .i64) 3 w m (· ∈ R) (.slice A' p.2.length c') (p.2.map Int.ofNat) := by
  obtain ⟨⟨vE, vI, h1, h2, h3⟩, _⟩ := h
  obtain ⟨A, c, rfl, h4, h5⟩ := Kd.R_reads h2
  obtain ⟨A', c', rfl, h6, h7⟩ := Kd.R_reads h3
  have e1 : (p.1.map toS).length = p.1.length := List.length_map _
  have e2 : (p.2.map Int.ofNat).length = p.2.length := List.length_map _
  rw [e1] at h1 h2 h4
  rw [e2] at h1 h3 h6
  exact ⟨A, c, A', c', h1, h4, h6, h2, h3⟩
theorem blk_set {W : World} {r : Nat} {u v : Value} {T : TypeId} (h : W.heap[r]? = some (.cells #[u, v] T (0, 0))) (x : Value) : (W.setCell ⟨r, 0, none⟩ x).heap[r]? = some (.cells #[x, v] T (0, 0)) ∧ (W.setCell ⟨r, 1, none⟩ x).heap[r]? = some (.cells #[u, x] T (0, 0)) := by
  exact ⟨heap_setCell_same W r 0 _ T x h, heap_setCell_same W r 1 _ T x h⟩
theorem R_C {α : Type} {d : Kd α} {e : TypeId} {w : World} {base n c : Nat} {ok : Nat → Prop} {A : Option Addr} {xs : List α} (h : Kd.R d e w base ok (.slice A n c) xs) : Kd.C d w A xs.length xs := by
  obtain ⟨A0, c0, he, _, hC⟩ := Kd.R_reads h
  injection he with e1 e2 e3
  subst e1
  exact hC
theorem blk_frozen {W : World} {r : Nat} {cs : Array Value} {T : TypeId} (h : W.heap[r]? = some (.cells cs T (0, 0))) (j : Nat) : W.frozen? ⟨r, j, none⟩ = false := by simp [World.frozen?, h]
theorem OE.set {W : World} {base r : Nat} {v : Value} {L : List En} {cs : Array Value} (h : OE W base v L) (hb : W.heap[r]? = some (.cells cs 47 (0, 0))) (j : Nat) (u : Value) : OE (W.setCell ⟨r, j, none⟩ u) base v L := Kd.R_set h hb (by decide) j u
theorem OI.set {W : World} {base r : Nat} {v : Value} {L : List Int} {cs : Array Value} (h : OI W base v L) (hb : W.heap[r]? = some (.cells cs 47 (0, 0))) (j : Nat) (u : Value) : OI (W.setCell ⟨r, j, none⟩ u) base v L := Kd.R_set h hb (by decide) j u
end
set_option maxHeartbeats 8000000 in
set_option maxRecDepth 100000 in
theorem rcut_calls {m r : Nat} {w : World} {R : List Nat} {p : Pl2} (h : Rf m w r R p) (hp2 : p.2.length = p.1.length) (hsm : p.1.length ≤ 1000) (f t : Int) : Calls Try.prog 36 #[.pointer (some ⟨r, 0, none⟩), .int .i64 f, .int .i64 t] w fun e w' => e = .returned (.int .i64 (cutP p f t).1) ∧ AfterR m w r R (cutP p f t).2 w' := by
  obtain ⟨A, c, A', c', hblk, hc, hc', hE, hI⟩ := h.blk
  have hrl : r < w.heap.size := h.lt r h.mem
  have HH := Aside0.mk h
  obtain ⟨F, T, hF, hT, hFT, hTn⟩ := in_nat p.1.length f t
  have hcut : cutP p f t = (((T - F : Nat) : Int), (p.1.take F ++ p.1.drop T, p.2.take F ++ p.2.drop T)) := by
    unfold cutP
    rw [hF, hT, show ((T : Nat) : Int).toNat = T by omega, show ((F : Nat) : Int).toNat = F by omega, show ((T : Nat) : Int) - (F : Int) = ((T - F : Nat) : Int) by omega, delN_eq F p.1 (by omega), delN_eq F p.2 (by omega), show F + (T - F) = T by omega]
  rw [hcut]
  unfold inT at hT
  rw [hF] at hT
  unfold inF at hF
  have hmE : (p.1.map toS).length = p.1.length := List.length_map _
  have hmI : (p.2.map Int.ofNat).length = p.2.length := List.length_map _
  have hq : p.2.map Int.ofNat = p.2.map Int.ofNat := rfl
  have HQ : Aside0 ((p.2.take F ++ p.2.drop T).map Int.ofNat = (p.2.map Int.ofNat).take F ++ (p.2.map Int.ofNat).drop T) := ⟨by rw [List.map_append, List.map_take, List.map_drop]⟩
  have HAF : Aside0 (∀ (W : World) (vE vI : Value), W.heap[r]? = some (.cells #[vE, vI] 47 (0, 0)) → OE W w.heap.size vE (p.1.take F ++ p.1.drop T) → OI W w.heap.size vI ((p.2.map Int.ofNat).take F ++ (p.2.map Int.ofNat).drop T) → Foot R w W → AfterR m w r R (p.1.take F ++ p.1.drop T, p.2.take F ++ p.2.drop T) W) := ⟨fun W vE vI g1 g2 g3 g4 => afterR_mk HH.out g1 g2 (by rw [HQ.out]; exact g3) g4⟩
  have hmem := h.mem
  clear h HH hcut hq HQ
  generalize p.1 = E at *
  generalize hIe : p.2.map Int.ofNat = I at *
  generalize p.2 = I0 at *
  have hI2 : I.length = E.length := by rw [hmI]; exact hp2
  rw [hp2] at hI hblk hc'
  clear hmI hIe hp2
  have HE := Aside0.mk hE
  have HI := Aside0.mk hI
  have hBK := fun (W : World) (hb : Below w.heap.size w W) => (hb.block r hrl).trans hblk
  have HK := Aside0.mk hBK
  have h0 : w.cell? ⟨r, 0, none⟩ = some (.slice A E.length c) := cell_at hblk rfl
  have h1 : w.cell? ⟨r, 1, none⟩ = some (.slice A' E.length c') := cell_at hblk rfl
  have g28h := cut28h A E.length c F (by omega) hc
  have g34h := cut34h A' E.length c' F (by omega) hc'
  have g28l := cut28l A E.length c T (by omega)
  have g34l := cut34l A' E.length c' T (by omega)
  clear hE hI hBK hblk
  have hCE : Kd.C k28 w A E.length (E.map toS) := by have := R_C HE.out; rwa [hmE] at this
  have hCI : Kd.C (Kd.int .i64) w A' I.length I := R_C HI.out
  have hdE := drop28 hCE (T := T) hTn hc
  have hdI : ∀ W, Kd.R (Kd.int .i64) 3 W m (· ∈ R) (.slice A' E.length c') I → Kd.C (Kd.int .i64) W (if c' = T then A' else A'.map (·.add (T * 1))) (E.length - T) (I.drop T) := fun W hW => by
    have := drop3 (R_C hW) (T := T) (c := c') (by omega) (by omega)
    rwa [hI2] at this
  generalize (if c = T then A else A.map (·.add (T * 2))) = AT at hdE g28l
  generalize (if c' = T then A' else A'.map (·.add (T * 1))) = AT' at hdI g34l
  have HIT := Aside0.mk (take3 hCI (T := F) (by omega))
  have HET := Aside0.mk (take28 hCE (T := F) (by omega))
  have HDE := Aside0.mk hdE
  have HDI := Aside0.mk hdI
  have hlE : (E.take F).length = F := by rw [List.length_take]; omega
  have hlI : (I.take F).length = F := by rw [List.length_take]; omega
  have hlE2 : (E.take F ++ E.drop T).length = F + (E.length - T) := by rw [List.length_append, List.length_drop, hlE]
  have hlI2 : (I.take F ++ I.drop T).length = F + (E.length - T) := by rw [List.length_append, List.length_drop, hlI, hI2]
  generalize E.take F = E1 at *
  generalize E.drop T = E2 at *
  generalize I.take F = I1 at *
  generalize I.drop T = I2 at *
  clear hCE hCI hdE hdI
  go_enter Try.func36, Try.ntmps36
  go_upto_region 5 with fail
  go_upto_region 6 with (first | ((with_reducible refine gate_builtin (b := .append) (xs := #[.tmp 26, .tmp 32]) rfl ?_); at_builtin; refine app28 w.heap.size rfl _ _ rfl (.slice none 0 0) [] E1 A F c rfl rfl (oe_nil _ _) HET.out (Nat.le_refl _) (by simp; omega) ?_; intro v1 w1 hE1 hb1 _; rw [List.nil_append] at hE1; obtain ⟨A1, c1, hv1, hc1, _⟩ := hE1.reads; rw [hlE] at hv1; subst hv1; have HE1 := Aside0.mk hE1; have HB1 := Aside0.mk hb1; clear hE1 hb1))
  clear hF hT g28h h0
  have h1 := cell_at (j := 1) (HK.out w1 HB1.out) rfl
  go_upto_region 7 with (first | ((with_reducible refine gate_builtin (b := .append) (xs := #[.tmp 34, .tmp 40]) rfl ?_); at_builtin; refine app3 w.heap.size rfl _ _ rfl (.slice none 0 0) [] I1 A' F c' rfl rfl (oi_nil _ _) (Kd.C_below HIT.out HB1.out) HB1.out.size (by simp; omega) ?_; intro v2 w2 hI2 hb2 hg2; rw [List.nil_append] at hI2; obtain ⟨A2, c2, hv2, hc2, _⟩ := hI2.reads; rw [hlI] at hv2; subst hv2; have HI2 := Aside0.mk hI2; have HB2 := Aside0.mk (HB1.out.trans hb2); have HE2 := Aside0.mk (HE1.out.other (oi_nil w1 w.heap.size) hg2); clear hI2 hb2 hg2))
  clear g34h h1 HE1 HIT HET
  have h0 := cell_at (j := 0) (HK.out w2 HB2.out) rfl
  have hw2 : w.heap.size ≤ w2.heap.size := HB2.out.size
  go_upto_region 8 with (first | ((with_reducible refine gate_builtin (b := .append) (xs := #[.tmp 43, .tmp 49]) rfl ?_); at_builtin; refine app28 w.heap.size rfl _ _ rfl (.slice A1 F c1) E1 E2 AT (E.length - T) (c - T) rfl rfl HE2.out (Kd.C_below HDE.out HB2.out) hw2 (by omega) ?_; intro v3 w3 hE3 hb3 hg3; obtain ⟨A3, c3, hv3, hc3, _⟩ := hE3.reads; rw [hlE2] at hv3; subst hv3; have HI3 := Aside0.mk (HI2.out.other HE2.out hg3); have HE3 := Aside0.mk hE3; have HB3 := Aside0.mk (HB2.out.trans hb3); have h03 := cell_at (j := 0) (HK.out w3 (HB2.out.trans hb3)) rfl; have f03 := blk_frozen (HK.out w3 (HB2.out.trans hb3)) 0; clear hE3 hb3 hg3))
  have hbk3 := HK.out w3 HB3.out
  have hbk4 := (blk_set hbk3 (.slice A3 (F + (E.length - T)) c3)).1
  have HE4 := Aside0.mk (HE3.out.set hbk3 0 (.slice A3 (F + (E.length - T)) c3))
  have HI4 := Aside0.mk (HI3.out.set hbk3 0 (.slice A3 (F + (E.length - T)) c3))
  have HD4 := Aside0.mk (HDI.out _ (Kd.R_set (Kd.R_below HI.out HB3.out) hbk3 (by decide) 0 (.slice A3 (F + (E.length - T)) c3)))
  have HF4 := Aside0.mk ((Foot.of (F := R) HB3.out).setCell (j := 0) (.slice A3 (F + (E.length - T)) c3) (.inl hmem))
  have hw4 : w.heap.size ≤ (w3.setCell ⟨r, 0, none⟩ (.slice A3 (F + (E.length - T)) c3)).heap.size := HF4.out.size
  clear h0 h03 f03 hbk3 g28l HE2 HI2 HE3 HI3
  generalize w3.setCell ⟨r, 0, none⟩ (.slice A3 (F + (E.length - T)) c3) = w4 at hbk4 HE4 HI4 HD4 HF4 hw4 ⊢
  have h1 := cell_at (j := 1) hbk4 rfl
  have HBK4 := Aside0.mk hbk4
  clear hbk4
  go_upto_region 9 with (first | ((with_reducible refine gate_builtin (b := .append) (xs := #[.tmp 54, .tmp 60]) rfl ?_); at_builtin; refine app3 w.heap.size rfl _ _ rfl (.slice A2 F c2) I1 I2 AT' (E.length - T) (c' - T) rfl rfl HI4.out HD4.out hw4 (by omega) ?_; intro v5 w5 hI5 hb5 hg5; obtain ⟨A5, c5, hv5, hc5, _⟩ := hI5.reads; rw [hlI2] at hv5; subst hv5; have HE5 := Aside0.mk (HE4.out.other HI4.out hg5); have HI5 := Aside0.mk hI5; have HF5 := Aside0.mk (HF4.out.below hb5); have HBK5 := Aside0.mk ((hb5.block r hrl).trans HBK4.out); have h15 := cell_at (j := 1) ((hb5.block r hrl).trans HBK4.out) rfl; have f15 := blk_frozen ((hb5.block r hrl).trans HBK4.out) 1; clear hI5 hb5 hg5))
  have hfin := HAF.out _ _ _ (blk_set HBK5.out (.slice A5 (F + (E.length - T)) c5)).2 (HE5.out.set HBK5.out 1 (.slice A5 (F + (E.length - T)) c5)) (HI5.out.set HBK5.out 1 (.slice A5 (F + (E.length - T)) c5)) (HF5.out.setCell (j := 1) (.slice A5 (F + (E.length - T)) c5) (.inl hmem))
  have HFIN := Aside0.mk hfin
  clear hfin h1 h15 f15
  generalize w5.setCell ⟨r, 1, none⟩ (.slice A5 (F + (E.length - T)) c5) = w6 at HFIN ⊢
  have hsub : IntKind.i64.wrap ((T : Int) - (F : Int)) = ((T - F : Nat) : Int) := by
    rw [show (T : Int) - (F : Int) = ((T - F : Nat) : Int) by omega]
    exact IntWalk.i64_in _ (by omega)
  go_wp2
  go_ret
  exact ⟨by first | rfl | rw [hsub], HFIN.out⟩
end Go.Proofs.Ytnlbdmiflihghaa.P

/- The reference list's Insert, Delete. Conditions: each theorem names its own. -/
namespace Go.Proofs.Ytnlbdmiflihghaa.P
open Go.RowKit Go.Shelf Go.Proofs.YtnlbdmiflihghaaW.PrintWords Go.Proofs.YtnlbdmiflihghaaW.PrintLast Go.Proofs.YtnlbdmiflihghaaW.PrintMore Go.Proofs.Ytnlbdmiflihghaa.SK
attribute [local go_sem] Oper.semAt_some

section
variable {ops : Array Oper} {o : Oper} {a : Act} {Q : Exit → Act → World → Prop} {Kc : Act → World → Prop}
theorem app28_step {W : World} (base : Nat) (hw : Region.wanted o (yielded ops a.tmps) = true) (s x : Operand) (ho : o.op = .call { callee := .builtin .append, args := #[s, x], argTypes := #[42, 42] })
    (v : Value) (xs ys : List En) (A : Option Addr) (m c : Nat) (hs : a.eval s = v) (hx : a.eval x = .slice A m c) (HO : OE W base v xs) (HR : Kd.C k28 W A m (ys.map toS)) (hbase : base ≤ W.heap.size) (hl : xs.length + m ≤ 4000)
    (h : ∀ v1 w1, OE w1 base v1 (xs ++ ys) → Below base W w1 → W.grownBy w1 v.ownBlock → Kc (a.put o.dst v1) w1) : if Region.wanted o (yielded ops a.tmps) = true then Oper.wp Try.prog o a W Kc Q else Kc (a.put o.dst undef) W := by
  refine Kd.R_append_rows_step (w0 := W) k28 (Rr := k28.K W) base hw s x 42 28 _ 24 ho Try.underlying42 info28' rfl (by decide) (by decide) v (xs.map toS) (ys.map toS) A m c (fun _ => True) (fun _ => False) hs hx HO HR (fun _ _ h => h) (fun _ h => h.elim) (fun _ _ => trivial) (Below.refl _ _) hbase (by rw [List.length_map]; omega) ?_
  intro v1 w1 h1 h2 h3 _
  rw [← List.map_append] at h1
  exact h v1 w1 h1 h2 h3
/-- One entry in a block, one number: a row of one. -/
theorem one28 {W : World} {B : Nat} {e : En} (h0 : W.cell? ⟨B, 0, none⟩ = some (.string e.1)) (h1 : W.cell? ⟨B, 1, none⟩ = some (.int .i64 e.2)) : Kd.C k28 W (some ⟨B, 0, none⟩) 1 ([e].map toS) := by
  refine ⟨rfl, by decide, fun _ => ⟨_, rfl, fun j p hj => ?_⟩⟩
  match j with
  | 0 =>
    obtain rfl : toS e = p := by simpa using hj
    refine ⟨_, rfl, k28_mk W (toS e), fun i u hu => ?_⟩
    match i with
    | 0 =>
      obtain rfl : Value.string e.1 = u := by simpa [toS] using hu
      exact h0
    | 1 =>
      obtain rfl : Value.int .i64 e.2 = u := by simpa [toS] using hu
      exact h1
    | i + 2 => simp at hu
  | j + 1 => simp at hj
theorem one3 {W : World} {B : Nat} {e : Int} (h0 : W.cell? ⟨B, 0, none⟩ = some (.int .i64 e)) : Kd.C (Kd.int .i64) W (some ⟨B, 0, none⟩) 1 [e] := by
  refine ⟨rfl, by decide, fun _ => ⟨_, rfl, fun j p hj => ?_⟩⟩
  match j with
  | 0 =>
    obtain rfl : e = p := by simpa using hj
    refine ⟨[.int .i64 e], rfl, rfl, fun i u hu => ?_⟩
    match i with
    | 0 =>
      obtain rfl : Value.int .i64 e = u := by simpa using hu
      exact h0
    | i + 1 => simp at hu
  | j + 1 => simp at hj
theorem AfterR.later {m r : Nat} {w w1 w' : World} {R : List Nat} {p' : Pl2} (hb : Below w.heap.size w w1) (h : AfterR m w1 r R p' w') : AfterR m w r R p' w' := by
  obtain ⟨R', h1, h2, h3⟩ := h
  exact ⟨R', h1, (Foot.of hb).trans h2, fun c hc => (h3 c hc).imp id (fun h4 => Nat.le_trans hb.size h4)⟩
theorem AfterR.same {m r : Nat} {w w' : World} {R : List Nat} {p : Pl2} (h : Rf m w r R p) (hb : Below w.heap.size w w') : AfterR m w r R p w' := ⟨R, h.below hb, Foot.of hb, fun _ hc => .inl hc⟩
end
set_option maxHeartbeats 8000000 in
set_option maxRecDepth 100000 in
theorem rinsert_calls {m r : Nat} {w : World} {R : List Nat} {p : Pl2} (h : Rf m w r R p) (hp2 : p.2.length = p.1.length) (hsm : p.1.length ≤ 1000) (hs : Srt p.1) (h12 : ∀ x, x ∈ p.1 → x.1.size ≤ 12) (e : En) (l : Int) : Calls Try.prog 33 #[.pointer (some ⟨r, 0, none⟩), .agg #[.string e.1, .int .i64 e.2], .int .i64 l] w fun x w' => x = .returned (.int .i64 (insP e l p).1) ∧ AfterR m w r R (insP e l p).2 w' := by
  have HP : Aside0 (insP e l p = if l < 1 ∨ 32 < l then (2, p) else if isin e p.1 = true then (90, p) else (0, (p.1.take (rank e p.1) ++ e :: p.1.drop (rank e p.1), ins p.2 (rank e p.1) l.toNat))) := ⟨rfl⟩
  have HH := Aside0.mk h
  clear h
  go_enter Try.func33, Try.ntmps33
  go_upto_region 1 with fail
  have hyb := ent_new w e
  have hb1 : Below w.heap.size w (w.alloc (.cells #[.string e.1, .int .i64 e.2] 28)) := below_alloc (Below.refl _ _) _
  generalize World.alloc w _ = w1 at hyb hb1 ⊢
  have e0 := ent_0 hyb
  have e1 := ent_1 hyb
  have HB1 := Aside0.mk hb1
  have HR1 := Aside0.mk (HH.out.below hb1)
  clear hyb hb1
  by_cases hl1 : l < 1
  · go_wp2
    go_ret
    rw [HP.out, if_pos (.inl hl1)]
    exact ⟨rfl, .same HH.out HB1.out⟩
  by_cases hl2 : l > 32
  · go_wp2
    go_ret
    rw [HP.out, if_pos (.inr hl2)]
    exact ⟨rfl, .same HH.out HB1.out⟩
  obtain ⟨A, c, A', c', hblk, hc, hc', hE, hI⟩ := HR1.out.blk
  have hrl : r < w1.heap.size := HR1.out.lt r HR1.out.mem
  have hC := R_C hE
  have hmE : (p.1.map toS).length = p.1.length := List.length_map _
  rw [hmE] at hC
  have hsk := rseek_calls e p.1 _ rfl hs h12 (by omega) A c w1.drew (Kd.C_drew hC) hc
  have HK : Aside0 (∀ W : World, Below w1.heap.size w1 W → W.cell? ⟨r, 0, none⟩ = some (.slice A p.1.length c) ∧ W.cell? ⟨w.heap.size, 0, none⟩ = some (.string e.1) ∧ W.cell? ⟨w.heap.size, 1, none⟩ = some (.int .i64 e.2)) := ⟨fun W hb => ⟨cell_at ((hb.block r hrl).trans hblk) rfl, (hb.cell (World.block_lt_of_cell? w1 _ e0)).trans e0, (hb.cell (World.block_lt_of_cell? w1 _ e1)).trans e1⟩⟩
  have HBK : Aside0 (∀ W : World, Below w1.heap.size w1 W → W.heap[r]? = some (.cells #[.slice A p.1.length c, .slice A' p.2.length c'] 47 (0, 0))) := ⟨fun W hb => (hb.block r hrl).trans hblk⟩
  have HC := Aside0.mk hC
  have HE := Aside0.mk hE
  have HI := Aside0.mk hI
  have hrk : rank e p.1 ≤ p.1.length := rank_le e p.1
  have HQ : Aside0 ((ins p.2 (rank e p.1) l.toNat).map Int.ofNat = (p.2.map Int.ofNat).take (rank e p.1) ++ (l :: (p.2.map Int.ofNat).drop (rank e p.1))) := ⟨by
    unfold ins
    rw [List.map_append, List.map_cons, List.map_take, List.map_drop, show Int.ofNat l.toNat = l by show ((l.toNat : Nat) : Int) = l; omega]⟩
  clear hE hI hC e0 e1 hblk
  go_upto_region 3 with fail
  go_region_held3 (fun w' => w'.cell? ⟨r, 0, none⟩ = some (.slice A p.1.length c) ∧ w'.cell? ⟨w.heap.size, 0, none⟩ = some (.string e.1) ∧ w'.cell? ⟨w.heap.size, 1, none⟩ = some (.int .i64 e.2))
    (first | exact HK.out _ ((Below.refl _ w1).drew) | exact HK.out _ HB2.out)
    (first | (go_at_call 35; refine hsk.mono ?_; rintro x w2 ⟨rfl, hb2⟩; have HB2 := Aside0.mk (((Below.refl w1.heap.size w1).drew).trans hb2); clear hb2 hsk))
  generalize hin : isin e p.1 = bi at HP ⊢
  have HIN := Aside0.mk hin
  clear hin
  cases bi with
  | true =>
    go_wp2
    go_ret
    rw [HP.out, if_neg (by omega), if_pos trivial]
    exact ⟨rfl, AfterR.later HB1.out (.same HR1.out HB2.out)⟩
  | false =>
    have HP2 : Aside0 (insP e l p = (0, (p.1.take (rank e p.1) ++ e :: p.1.drop (rank e p.1), ins p.2 (rank e p.1) l.toNat))) := ⟨by rw [HP.out, if_neg (by omega), if_neg (by simp)]⟩
    have HAF : Aside0 (∀ (W : World) (vE vI : Value), W.heap[r]? = some (.cells #[vE, vI] 47 (0, 0)) → OE W w1.heap.size vE ((p.1.take (rank e p.1) ++ [e]) ++ p.1.drop (rank e p.1)) → OI W w1.heap.size vI (((p.2.map Int.ofNat).take (rank e p.1) ++ [l]) ++ (p.2.map Int.ofNat).drop (rank e p.1)) → Foot R w1 W → AfterR m w r R (insP e l p).2 W) := ⟨fun W vE vI g1 g2 g3 g4 => by
      rw [HP2.out]
      exact (afterR_mk (p' := (p.1.take (rank e p.1) ++ e :: p.1.drop (rank e p.1), ins p.2 (rank e p.1) l.toNat)) HR1.out g1 (by rw [List.append_assoc] at g2; exact g2) (by rw [List.append_assoc] at g3; rw [HQ.out]; exact g3) g4).later HB1.out⟩
    have H0 : Aside0 ((insP e l p).1 = 0) := ⟨by rw [HP2.out]⟩
    have hmem := HR1.out.mem
    clear HP HP2 HQ HR1 HH HIN hs h12
    have hI2 : (p.2.map Int.ofNat).length = p.1.length := by rw [List.length_map]; exact hp2
    have hCI := HI.out
    rw [hp2] at hc' hCI HBK
    have HI := Aside0.mk hCI
    generalize rank e p.1 = k at *
    generalize p.2.map Int.ofNat = I at *
    generalize p.1 = E at *
    have hCE := HC.out
    have hdE := drop28 hCE (T := k) hrk hc
    have hdI : ∀ W, Kd.R (Kd.int .i64) 3 W m (· ∈ R) (.slice A' E.length c') I → Kd.C (Kd.int .i64) W (if c' = k then A' else A'.map (·.add (k * 1))) (E.length - k) (I.drop k) := fun W hW => by
      have := drop3 (R_C hW) (T := k) (c := c') (by omega) (by omega)
      rwa [hI2] at this
    have g28h := cut28h A E.length c k hrk hc
    have g34h := cut34h A' E.length c' k hrk hc'
    have g28l := cut28l A E.length c k hrk
    have g34l := cut34l A' E.length c' k hrk
    generalize (if c = k then A else A.map (·.add (k * 2))) = AT at hdE g28l
    generalize (if c' = k then A' else A'.map (·.add (k * 1))) = AT' at hdI g34l
    have HIT := Aside0.mk (take3 (R_C hCI) (T := k) (by omega))
    have HET := Aside0.mk (take28 hCE (T := k) hrk)
    have HDE := Aside0.mk hdE
    have HDI := Aside0.mk hdI
    have hlE : (E.take k).length = k := by rw [List.length_take]; omega
    have hlI : (I.take k).length = k := by rw [List.length_take]; omega
    have hlE2 : (E.drop k).length = E.length - k := List.length_drop
    have hlI2 : (I.drop k).length = E.length - k := by rw [List.length_drop, hI2]
    generalize E.take k = E1 at *
    generalize E.drop k = E2 at *
    generalize I.take k = I1 at *
    generalize I.drop k = I2 at *
    have HB2d : Aside0 (Below w1.heap.size w1 w2.drew) := ⟨HB2.out.drew⟩
    have HB2a : Aside0 (Below w1.heap.size w1 (w2.drew.alloc (.cells #[.string e.1, .int .i64 e.2] 28))) := ⟨HB2.out.drew.alloc HB2.out.size _⟩
    clear hCE hCI hdE hdI HC
    go_upto_region 8 with fail
    go_region_held3 (fun w' => w'.cell? ⟨r, 0, none⟩ = some (.slice A E.length c) ∧ w'.cell? ⟨w.heap.size, 0, none⟩ = some (.string e.1) ∧ w'.cell? ⟨w.heap.size, 1, none⟩ = some (.int .i64 e.2))
      (first | exact HK.out _ HB2d.out | exact HK.out _ HB2a.out | exact HK.out _ HB3.out | exact HK.out _ HB3a.out | exact HK.out _ HB5.out)
      (first
        | (refine app28_step w1.heap.size (by rfl) (.tmp 27) (.tmp 33) rfl (.slice none 0 0) [] E1 A k c rfl rfl (oe_nil _ _) (by first | exact Kd.C_below HET.out HB2d.out | exact Kd.C_below HET.out HB2a.out) (by first | exact HB2d.out.size | exact HB2a.out.size) (by simp; omega) ?_; intro v3 w3 hE3 hb3 hg3; rw [List.nil_append] at hE3; obtain ⟨A3, c3, hv3, hc3, _⟩ := hE3.reads; rw [hlE] at hv3; subst hv3; have HE3 := Aside0.mk hE3; have HB3 : Aside0 (Below w1.heap.size w1 w3) := ⟨by first | exact HB2d.out.trans hb3 | exact HB2a.out.trans hb3⟩; have HB3a : Aside0 (Below w1.heap.size w1 (w3.alloc (.cells #[.string e.1, .int .i64 e.2] 28))) := ⟨HB3.out.alloc HB3.out.size _⟩; have HG3 := Aside0.mk hg3; clear hE3 hb3 hg3)
        | (refine app28_step w1.heap.size (by rfl) (.tmp 34) (.tmp 36) rfl (.slice A3 k c3) E1 [e] (some ⟨w3.heap.size, 0, none⟩) 1 1 rfl rfl (Kd.R_below HE3.out ((Below.refl _ _).alloc (Nat.le_refl _) _)) (one28 (cell_at (World.alloc_heap_new w3 _) rfl) (cell_at (World.alloc_heap_new w3 _) rfl)) HB3a.out.size (by omega) ?_; intro v5 w5 hE5 hb5 hg5; obtain ⟨A5, c5, hv5, hc5, _⟩ := hE5.reads; rw [List.length_append, hlE, List.length_singleton] at hv5; subst hv5; have HE5 := Aside0.mk hE5; have HB5 : Aside0 (Below w1.heap.size w1 w5) := ⟨HB3a.out.trans hb5⟩; clear hE5 hb5 hg5)
        | (refine app28_step w1.heap.size (by rfl) (.tmp 34) (.tmp 36) rfl (.slice A3 k c3) E1 [e] (some ⟨w2.heap.size, 0, none⟩) 1 1 rfl rfl HE3.out (one28 (cell_at ((HG3.out.block w2.heap.size (by show w2.heap.size < (w2.alloc _).heap.size; rw [World.size_alloc]; omega) (by simp [Value.ownBlock])).trans (World.alloc_heap_new w2 _)) rfl) (cell_at ((HG3.out.block w2.heap.size (by show w2.heap.size < (w2.alloc _).heap.size; rw [World.size_alloc]; omega) (by simp [Value.ownBlock])).trans (World.alloc_heap_new w2 _)) rfl)) HB3.out.size (by omega) ?_; intro v5 w5 hE5 hb5 hg5; obtain ⟨A5, c5, hv5, hc5, _⟩ := hE5.reads; rw [List.length_append, hlE, List.length_singleton] at hv5; subst hv5; have HE5 := Aside0.mk hE5; have HB5 : Aside0 (Below w1.heap.size w1 w5) := ⟨HB3.out.trans hb5⟩; clear hE5 hb5 hg5))
    all_goals
      have hlE3 : (E1 ++ [e]).length = k + 1 := by rw [List.length_append, hlE, List.length_singleton]
      have hlE4 : ((E1 ++ [e]) ++ E2).length = k + 1 + (E.length - k) := by rw [List.length_append, hlE3, hlE2]
      have hlI3 : (I1 ++ [l]).length = k + 1 := by rw [List.length_append, hlI, List.length_singleton]
      have hlI4 : ((I1 ++ [l]) ++ I2).length = k + 1 + (E.length - k) := by rw [List.length_append, hlI3, hlI2]
      clear HE3 HB3 HB3a HG3 HB2d HB2a HET g28h
      have h1 := cell_at (j := 1) (HBK.out w5 HB5.out) rfl
      have hs5 : w1.heap.size ≤ w5.heap.size := HB5.out.size
      go_upto_region 10 with (first
        | ((with_reducible refine gate_builtin (b := .append) (xs := #[.tmp 38, .tmp 44]) rfl ?_); at_builtin; refine app3 w1.heap.size rfl _ _ rfl (.slice none 0 0) [] I1 A' k c' rfl rfl (oi_nil _ _) (Kd.C_below HIT.out HB5.out) hs5 (by simp; omega) ?_; intro v6 w6 hI6 hb6 hg6; rw [List.nil_append] at hI6; obtain ⟨A6, c6, hv6, hc6, _⟩ := hI6.reads; rw [hlI] at hv6; subst hv6; have HI6 := Aside0.mk hI6; have HE6 := Aside0.mk (HE5.out.other (oi_nil w5 w1.heap.size) hg6); have HB6 := Aside0.mk (HB5.out.trans hb6); clear hI6 hb6 hg6)
        | ((with_reducible refine gate_builtin (b := .append) (xs := #[.tmp 45, .tmp 47]) rfl ?_); at_builtin; refine app3 w1.heap.size rfl _ _ rfl (.slice A6 k c6) I1 [l] (some ⟨w6.heap.size, 0, none⟩) 1 1 rfl rfl (Kd.R_below HI6.out ((Below.refl _ _).alloc (Nat.le_refl _) _)) (one3 (cell_at (World.alloc_heap_new w6 _) rfl)) ((HB6.out.alloc HB6.out.size _).size) (by omega) ?_; intro v7 w7 hI7 hb7 hg7; obtain ⟨A7, c7, hv7, hc7, _⟩ := hI7.reads; rw [hlI3] at hv7; subst hv7; have HE7 := Aside0.mk (OE.other (Kd.R_below HE6.out ((Below.refl w6.heap.size w6).alloc (Nat.le_refl _) (.cells #[.int .i64 l] 3))) (Kd.R_below HI6.out ((Below.refl w6.heap.size w6).alloc (Nat.le_refl _) (.cells #[.int .i64 l] 3))) hg7); have HI7 := Aside0.mk hI7; have HB7 := Aside0.mk ((HB6.out.alloc HB6.out.size _).trans hb7); clear hI7 hb7 hg7))
      clear h1 g34h HE5 HE6 HI6 HB6 HIT
      have h0 := cell_at (j := 0) (HBK.out w7 HB7.out) rfl
      have hw7 : w1.heap.size ≤ w7.heap.size := HB7.out.size
      go_upto_region 11 with (first | ((with_reducible refine gate_builtin (b := .append) (xs := #[.tmp 50, .tmp 56]) rfl ?_); at_builtin; refine app28 w1.heap.size rfl _ _ rfl (.slice A5 (k + 1) c5) (E1 ++ [e]) E2 AT (E.length - k) (c - k) rfl rfl HE7.out (Kd.C_below HDE.out HB7.out) hw7 (by omega) ?_; intro v8 w8 hE8 hb8 hg8; obtain ⟨A8, c8, hv8, hc8, _⟩ := hE8.reads; rw [hlE4] at hv8; subst hv8; have HI8 := Aside0.mk (HI7.out.other HE7.out hg8); have HE8 := Aside0.mk hE8; have HB8 := Aside0.mk (HB7.out.trans hb8); have h08 := cell_at (j := 0) (HBK.out w8 (HB7.out.trans hb8)) rfl; have f08 := blk_frozen (HBK.out w8 (HB7.out.trans hb8)) 0; clear hE8 hb8 hg8))
      have hbk8 := HBK.out w8 HB8.out
      have hbk9 := (blk_set hbk8 (.slice A8 (k + 1 + (E.length - k)) c8)).1
      have HE9 := Aside0.mk (HE8.out.set hbk8 0 (.slice A8 (k + 1 + (E.length - k)) c8))
      have HI9 := Aside0.mk (HI8.out.set hbk8 0 (.slice A8 (k + 1 + (E.length - k)) c8))
      have HD9 := Aside0.mk (HDI.out _ (Kd.R_set (Kd.R_below HI.out HB8.out) hbk8 (by decide) 0 (.slice A8 (k + 1 + (E.length - k)) c8)))
      have HF9 := Aside0.mk ((Foot.of (F := R) HB8.out).setCell (j := 0) (.slice A8 (k + 1 + (E.length - k)) c8) (.inl hmem))
      have hw9 : w1.heap.size ≤ (w8.setCell ⟨r, 0, none⟩ (.slice A8 (k + 1 + (E.length - k)) c8)).heap.size := HF9.out.size
      clear h0 h08 f08 hbk8 g28l HE7 HI7 HE8 HI8
      generalize w8.setCell ⟨r, 0, none⟩ (.slice A8 (k + 1 + (E.length - k)) c8) = w9 at hbk9 HE9 HI9 HD9 HF9 hw9 ⊢
      have h1 := cell_at (j := 1) hbk9 rfl
      have HBK9 := Aside0.mk hbk9
      clear hbk9
      go_upto_region 12 with (first | ((with_reducible refine gate_builtin (b := .append) (xs := #[.tmp 61, .tmp 67]) rfl ?_); at_builtin; refine app3 w1.heap.size rfl _ _ rfl (.slice A7 (k + 1) c7) (I1 ++ [l]) I2 AT' (E.length - k) (c' - k) rfl rfl HI9.out HD9.out hw9 (by omega) ?_; intro v10 w10 hI10 hb10 hg10; obtain ⟨A10, c10, hv10, hc10, _⟩ := hI10.reads; rw [hlI4] at hv10; subst hv10; have HE10 := Aside0.mk (HE9.out.other HI9.out hg10); have HI10 := Aside0.mk hI10; have HF10 := Aside0.mk (HF9.out.below hb10); have HBK10 := Aside0.mk ((hb10.block r hrl).trans HBK9.out); have h110 := cell_at (j := 1) ((hb10.block r hrl).trans HBK9.out) rfl; have f110 := blk_frozen ((hb10.block r hrl).trans HBK9.out) 1; clear hI10 hb10 hg10))
      have hfin := HAF.out _ _ _ (blk_set HBK10.out (.slice A10 (k + 1 + (E.length - k)) c10)).2 (HE10.out.set HBK10.out 1 (.slice A10 (k + 1 + (E.length - k)) c10)) (HI10.out.set HBK10.out 1 (.slice A10 (k + 1 + (E.length - k)) c10)) (HF10.out.setCell (j := 1) (.slice A10 (k + 1 + (E.length - k)) c10) (.inl hmem))
      have HFIN := Aside0.mk hfin
      clear hfin h1 h110 f110
      generalize w10.setCell ⟨r, 1, none⟩ (.slice A10 (k + 1 + (E.length - k)) c10) = w11 at HFIN ⊢
      go_wp2
      go_ret
      exact ⟨by rw [H0.out]; rfl, HFIN.out⟩
theorem cutP_one (p : Pl2) (k : Nat) (hk : k < p.1.length) : cutP p (k : Int) ((k + 1 : Nat) : Int) = (1, (p.1.eraseIdx k, p.2.eraseIdx k)) := by
  have hF : inF p.1.length (k : Int) = k := by unfold inF mx mn; split <;> split <;> omega
  have hT : inT p.1.length (k : Int) ((k + 1 : Nat) : Int) = ((k + 1 : Nat) : Int) := by unfold inT; rw [hF]; unfold mx mn; split <;> split <;> omega
  unfold cutP
  rw [hF, hT, show ((k : Nat) : Int).toNat = k by omega, show (((k + 1 : Nat) : Int)).toNat - k = 1 by omega, show ((k + 1 : Nat) : Int) - (k : Int) = 1 by omega]
  rfl
set_option maxHeartbeats 8000000 in
set_option maxRecDepth 100000 in
theorem rdelete_calls {m r : Nat} {w : World} {R : List Nat} {p : Pl2} (h : Rf m w r R p) (hp2 : p.2.length = p.1.length) (hsm : p.1.length ≤ 1000) (hs : Srt p.1) (h12 : ∀ x, x ∈ p.1 → x.1.size ≤ 12) (e : En) : Calls Try.prog 34 #[.pointer (some ⟨r, 0, none⟩), .agg #[.string e.1, .int .i64 e.2]] w fun x w' => x = .returned (.bool (delP e p).1) ∧ AfterR m w r R (delP e p).2 w' := by
  have HP : Aside0 (delP e p = if isin e p.1 = true then (true, (p.1.eraseIdx (rank e p.1), p.2.eraseIdx (rank e p.1))) else (false, p)) := ⟨rfl⟩
  have HM : Aside0 (isin e p.1 = true → rank e p.1 < p.1.length) := ⟨fun hi => ((mem_rank e p.1 hs).mp (isin_iff.mp hi)).1⟩
  have HH := Aside0.mk h
  clear h
  go_enter Try.func34, Try.ntmps34
  go_upto_region 1 with fail
  have hyb := ent_new w e
  have hb1 : Below w.heap.size w (w.alloc (.cells #[.string e.1, .int .i64 e.2] 28)) := below_alloc (Below.refl _ _) _
  generalize World.alloc w _ = w1 at hyb hb1 ⊢
  have e0 := ent_0 hyb
  have e1 := ent_1 hyb
  have HB1 := Aside0.mk hb1
  have HR1 := Aside0.mk (HH.out.below hb1)
  clear hyb hb1
  obtain ⟨A, c, A', c', hblk, hc, hc', hE, hI⟩ := HR1.out.blk
  have hrl : r < w1.heap.size := HR1.out.lt r HR1.out.mem
  have hC := R_C hE
  have hmE : (p.1.map toS).length = p.1.length := List.length_map _
  rw [hmE] at hC
  have hsk := rseek_calls e p.1 _ rfl hs h12 (by omega) A c w1.drew (Kd.C_drew hC) hc
  have HK : Aside0 (∀ W : World, Below w1.heap.size w1 W → W.cell? ⟨r, 0, none⟩ = some (.slice A p.1.length c) ∧ W.cell? ⟨w.heap.size, 0, none⟩ = some (.string e.1) ∧ W.cell? ⟨w.heap.size, 1, none⟩ = some (.int .i64 e.2)) := ⟨fun W hb => ⟨cell_at ((hb.block r hrl).trans hblk) rfl, (hb.cell (World.block_lt_of_cell? w1 _ e0)).trans e0, (hb.cell (World.block_lt_of_cell? w1 _ e1)).trans e1⟩⟩
  have hrk : rank e p.1 ≤ p.1.length := rank_le e p.1
  clear hE hI hC e0 e1 hblk
  go_region_held3 (fun w' => w'.cell? ⟨r, 0, none⟩ = some (.slice A p.1.length c) ∧ w'.cell? ⟨w.heap.size, 0, none⟩ = some (.string e.1) ∧ w'.cell? ⟨w.heap.size, 1, none⟩ = some (.int .i64 e.2))
    (first | exact HK.out _ ((Below.refl _ w1).drew) | exact HK.out _ HB2.out)
    (first | (go_at_call 35; refine hsk.mono ?_; rintro x w2 ⟨rfl, hb2⟩; have HB2 := Aside0.mk (((Below.refl w1.heap.size w1).drew).trans hb2); clear hb2 hsk))
  have HR2 := Aside0.mk (HR1.out.below HB2.out)
  clear HK
  generalize hin : isin e p.1 = bi at HP HM ⊢
  cases bi with
  | true =>
    have hrl2 := HM.out rfl
    have hct := rcut_calls HR2.out hp2 hsm (rank e p.1 : Nat) ((rank e p.1 + 1 : Nat) : Int)
    rw [cutP_one p (rank e p.1) hrl2] at hct
    have hw : IntKind.i64.wrap ((rank e p.1 : Nat) + 1 : Int) = ((rank e p.1 + 1 : Nat) : Int) := by
      rw [show ((rank e p.1 : Nat) + 1 : Int) = ((rank e p.1 + 1 : Nat) : Int) by omega]
      exact IntWalk.i64_in _ (by omega)
    have HP2 : Aside0 (delP e p = (true, (p.1.eraseIdx (rank e p.1), p.2.eraseIdx (rank e p.1)))) := ⟨by rw [HP.out]; rfl⟩
    clear HP HM
    have hx : ((rank e p.1 + 1 : Nat) : Int) = (rank e p.1 : Nat) + 1 := by omega
    go_wp2_with (first | (go_at_call 36; refine (show Calls Try.prog 36 _ _ _ from hx ▸ hct).mono ?_; rintro x w3 ⟨rfl, ha⟩; have HA := Aside0.mk ha; clear ha hct))
    go_ret
    rw [HP2.out]
    exact ⟨rfl, AfterR.later HB1.out (AfterR.later HB2.out HA.out)⟩
  | false =>
    go_wp2
    go_ret
    rw [HP.out, if_neg (by simp)]
    exact ⟨rfl, AfterR.later HB1.out (.same HR1.out HB2.out)⟩
end Go.Proofs.Ytnlbdmiflihghaa.P
