/- The law BoundBack: a call of it answers true. Conditions: that the table of powers of ten lies as the program lays it; the ends' numbers are of 64 bits. -/
import Derived.Test.YtnglofnelmojnaaDoorPureBoundReads
import Derived.Test.YtnglofnelmojnaaDoorPx4
namespace Go.Proofs.YtnglofnelmojnaaDoor.P
open Go.RowKit Go.Lib Go.Proofs.YtnglofnelmojnaaDoorW.PrintWords Go.Proofs.YtnglofnelmojnaaDoorW.PrintLast Go.Proofs.YtnglofnelmojnaaDoorW.PrintMore

attribute [local go_sem high] eqA23 eqA33
theorem more_below {w W w1 : World} (h0 : Below w.heap.size w W) (h1 : Below W.heap.size W w1) : Below w.heap.size w w1 := below_weaken h0 h0.size h1
/-- A block of cells lies. -/
def Bx (W : World) (g : Nat) (cs : Array Value) (t : TypeId) : Prop := W.heap[g]? = some (.cells cs t (0, 0))
theorem Bx.step {W w1 : World} {g : Nat} {cs : Array Value} {t : TypeId} (h : Bx W g cs t) (hb : Below W.heap.size W w1) : Bx w1 g cs t := blk_below h hb
theorem Bx.more {W : World} {g : Nat} {cs : Array Value} {t : TypeId} (h : Bx W g cs t) (o : Obj) : Bx (W.alloc o) g cs t := blk_alloc h o
theorem Bx.new (W : World) (cs : Array Value) (t : TypeId) : Bx (W.alloc (.cells cs t)) W.heap.size cs t := blk_new W _
theorem Bx.new1 (W : World) (o : Obj) (cs : Array Value) (t : TypeId) : Bx ((W.alloc o).alloc (.cells cs t)) (W.heap.size + 1) cs t := by
  have h := blk_new (W.alloc o) (.cells cs t)
  rw [World.size_alloc] at h
  exact h
theorem Bx.get3 {W : World} {g : Nat} {a b c : Value} {t : TypeId} (h : Bx W g #[a, b, c] t) : W.cell? ⟨g, 0, none⟩ = some a ∧ W.cell? ⟨g, 1, none⟩ = some b ∧ W.cell? ⟨g, 2, none⟩ = some c :=
  ⟨(blk_cell h 0).trans rfl, (blk_cell h 1).trans rfl, (blk_cell h 2).trans rfl⟩
set_option maxHeartbeats 8000000 in
set_option maxRecDepth 100000 in
theorem back_law (s : ByteArray) (n : Int) (o : Bool) (i : Int) (h0 : -9223372036854775808 ≤ n) (h1 : n ≤ 9223372036854775807) (t : ByteArray) (u : Bool) (j : Int) (hts : t.size ≤ 1000000000000000) (w : World) (ht : Tab w) :
    Calls Tryd.prog 4 #[.string s, .agg #[.int .i64 n, .bool o, .int .i64 i], .agg #[.string t, .bool u, .int .i64 j]] w fun e w' => e = .returned (.bool true) ∧ Below w.heap.size w w' := by
  have HS := Aside0.mk shown_true
  obtain ⟨c, hcut, hcs⟩ := cut_100 s
  have HC := Aside0.mk hcut
  have HT := Aside0.mk ht
  have hF := (fmt_end n o i h0 h1 21 (by omega)).1
  have hFs := size_end n o i h0 h1
  have hFb := back_end n o i h0 h1
  have hE := fmt_edge t u j hts
  have hEb := back_edge t u j hts
  obtain ⟨x0, x1, x2, f, hP, _, _, _⟩ := parse_end (textEnd n o i).1 hFs
  obtain ⟨y0, y1, y2, h, hQ, _⟩ := parse_edge_some (edgeEnd t u j).1 (by
    unfold edgeEnd
    split
    · decide
    split
    · decide
    split
    · split
      · simp only [ByteArray.size_append]; have : (⟨#[40]⟩ : ByteArray).size = 1 := rfl; omega
      · simp only [ByteArray.size_append]; have : (⟨#[91]⟩ : ByteArray).size = 1 := rfl; omega
    · decide)
  obtain ⟨z0, z1, z2, i2, hZ, _, z0lo, z0hi⟩ := parse_end c (by omega)
  have hZF := (fmt_end z0 z1 z2 z0lo z0hi 21 (by omega)).1
  have hZb := forth_end c (by omega) z0 z1 z2
  obtain ⟨v0, v1, v2, k, hV, hvs⟩ := parse_edge_some c (by omega)
  have hVF := fmt_edge v0 v1 v2 (by omega)
  have hVb := forth_edge c (by omega) v0 v1 v2
  rw [hP] at hFb
  rw [hQ] at hEb
  rw [hZ] at hZb
  rw [hV] at hVb
  have c1 : ((textEnd n o i).2 = 0 ∧ f = 0 ∧ x0 = n ∧ x1 = o ∧ x2 = i) ∨ ((textEnd n o i).2 == 0) = false := by
    by_cases he : (textEnd n o i).2 = 0
    · have := hFb he
      simp only [Option.some.injEq, Prod.mk.injEq] at this
      exact .inl ⟨he, this.2.2.2, this.1, this.2.1, this.2.2.1⟩
    · exact .inr (by simpa using he)
  have c2 : ((edgeEnd t u j).2 = 0 ∧ h = 0 ∧ y0 = t ∧ y1 = u ∧ y2 = j) ∨ ((edgeEnd t u j).2 == 0) = false := by
    by_cases he : (edgeEnd t u j).2 = 0
    · have := hEb he
      simp only [Option.some.injEq, Prod.mk.injEq] at this
      exact .inl ⟨he, this.2.2.2, this.1, this.2.1, this.2.2.1⟩
    · exact .inr (by simpa using he)
  have c3 : (i2 = 0 ∧ (textEnd z0 z1 z2).2 = 0 ∧ (textEnd z0 z1 z2).1 = c) ∨ (i2 = 0 ∧ (textEnd z0 z1 z2).2 = 0 ∧ ((textEnd z0 z1 z2).1.toList == c.toList) = false ∧ (c.toList == ([105, 110, 102] : List UInt8)) = true) ∨ (i2 != 0) = true := by
    by_cases he : i2 = 0
    · obtain ⟨q1, q2⟩ := hZb (by rw [he])
      by_cases q3 : (textEnd z0 z1 z2).1 = c
      · exact .inl ⟨he, q1, q3⟩
      · rcases q2 with q2 | q2
        · exact absurd q2 q3
        · exact .inr (.inl ⟨he, q1, by simpa [toL_inj] using q3, by simpa using q2⟩)
    · exact .inr (.inr (by simpa using he))
  have c4 : (k = 0 ∧ (edgeEnd v0 v1 v2).2 = 0 ∧ (edgeEnd v0 v1 v2).1 = c) ∨ (k != 0) = true := by
    by_cases he : k = 0
    · have := hVb (by rw [he])
      exact .inl ⟨he, by rw [this], by rw [this]⟩
    · exact .inr (by simpa using he)
  clear hFb hEb hZb hVb hFs hcs hvs
  generalize textEnd n o i = r1 at hF hP c1
  obtain ⟨p, e⟩ := r1
  generalize edgeEnd t u j = r2 at hE hQ c2
  obtain ⟨q, g⟩ := r2
  generalize textEnd z0 z1 z2 = r3 at hZF c3
  obtain ⟨p3, e3⟩ := r3
  generalize edgeEnd v0 v1 v2 = r4 at hVF c4
  obtain ⟨q4, g4⟩ := r4
  simp only at hP hQ c1 c2 c3 c4
  have HF := Aside0.mk hF
  have HP := Aside0.mk hP
  have HE := Aside0.mk hE
  have HQ := Aside0.mk hQ
  have HZ := Aside0.mk hZ
  have HZF := Aside0.mk hZF
  have HV := Aside0.mk hV
  have HVF := Aside0.mk hVF
  clear hF hP hE hQ hZ hZF hV hVF hcut ht
  have C3 := Aside0.mk c3
  have C4 := Aside0.mk c4
  have C2 := Aside0.mk c2
  have C1 := Aside0.mk c1
  clear c1 c2 c3 c4
  go_enter Tryd.func4, Tryd.ntmps4
  go_wp2_with fail
  refine (paliolaw09_shown.calls _ _ HS.out).mono ?_
  rintro e1 w1 ⟨rfl, hb1⟩
  have Bb := Aside0.mk (Bx.step (Bx.more (Bx.new w _ _) _) hb1)
  have Bc := Aside0.mk (Bx.step (Bx.new1 w _ _ _) hb1)
  have B1 := Aside0.mk (more_below (below_alloc (below_alloc (Below.refl _ _) _) _) hb1)
  clear hb1
  obtain ⟨k0, k1, k2⟩ := Bb.out.get3
  go_wp2_with fail
  refine (bound_Format.calls _ _ _ _ _ _ (HT.out.below B1.out) HF.out).mono ?_
  rintro e2 w2 ⟨rfl, hb2⟩
  have B2 := Aside0.mk (more_below B1.out hb2)
  have Bb2 := Aside0.mk (Bb.out.step hb2)
  have Bc2 := Aside0.mk (Bc.out.step hb2)
  clear hb2 k0 k1 k2 Bb Bc B1
  go_wp2_with fail
  refine (bound_Parse.calls _ _ _ _ _ _ HP.out).mono ?_
  rintro e3 w3 ⟨rfl, hb3⟩
  have B3 := Aside0.mk (more_below B2.out hb3)
  have Bb3 := Aside0.mk (Bb2.out.step hb3)
  have Bc3 := Aside0.mk (Bc2.out.step hb3)
  clear hb3 Bb2 Bc2 B2
  have k0 : ∀ o', (w3.alloc o').cell? ⟨w.heap.size + 1, 0, none⟩ = some (.string t) := fun o' => (Bc3.out.more o').get3.1
  have k1 : ∀ o', (w3.alloc o').cell? ⟨w.heap.size + 1, 1, none⟩ = some (.bool u) := fun o' => (Bc3.out.more o').get3.2.1
  have k2 : ∀ o', (w3.alloc o').cell? ⟨w.heap.size + 1, 2, none⟩ = some (.int .i64 j) := fun o' => (Bc3.out.more o').get3.2.2
  go_wp2_with fail
  refine (bound_FormatEdge.calls _ _ _ _ _ _ HE.out).mono ?_
  rintro e4 w4 ⟨rfl, hb4⟩
  have B4 := Aside0.mk (more_below (below_alloc B3.out _) hb4)
  have Bb4 := Aside0.mk ((Bb3.out.more _).step hb4)
  have Bc4 := Aside0.mk ((Bc3.out.more _).step hb4)
  have Bx4 := Aside0.mk ((Bx.new w3 _ _).step hb4)
  clear hb4 k0 k1 k2 Bb3 Bc3 B3
  go_wp2_with fail
  refine (bound_ParseEdge.calls _ _ _ _ _ _ HQ.out).mono ?_
  rintro e5 w5 ⟨rfl, hb5⟩
  have B5 := Aside0.mk (more_below B4.out hb5)
  have Bb5 := Aside0.mk (Bb4.out.step hb5)
  have Bc5 := Aside0.mk (Bc4.out.step hb5)
  have Bx5 := Aside0.mk (Bx4.out.step hb5)
  clear hb5 Bb4 Bc4 Bx4 B4
  generalize hX : w3.heap.size = gx at Bx5 ⊢
  have k0 : ∀ o', (w5.alloc o').cell? ⟨w.heap.size + 1, 0, none⟩ = some (.string t) := fun o' => (Bc5.out.more o').get3.1
  have k1 : ∀ o', (w5.alloc o').cell? ⟨w.heap.size + 1, 1, none⟩ = some (.bool u) := fun o' => (Bc5.out.more o').get3.2.1
  have k2 : ∀ o', (w5.alloc o').cell? ⟨w.heap.size + 1, 2, none⟩ = some (.int .i64 j) := fun o' => (Bc5.out.more o').get3.2.2
  have j0 : ∀ o', (w5.alloc o').cell? ⟨w.heap.size, 0, none⟩ = some (.int .i64 n) := fun o' => (Bb5.out.more o').get3.1
  have j1 : ∀ o', (w5.alloc o').cell? ⟨w.heap.size, 1, none⟩ = some (.bool o) := fun o' => (Bb5.out.more o').get3.2.1
  have j2 : ∀ o', (w5.alloc o').cell? ⟨w.heap.size, 2, none⟩ = some (.int .i64 i) := fun o' => (Bb5.out.more o').get3.2.2
  have i0 : ∀ o', (w5.alloc o').cell? ⟨gx, 0, none⟩ = some (.int .i64 x0) := fun o' => (Bx5.out.more o').get3.1
  have i1 : ∀ o', (w5.alloc o').cell? ⟨gx, 1, none⟩ = some (.bool x1) := fun o' => (Bx5.out.more o').get3.2.1
  have i2 : ∀ o', (w5.alloc o').cell? ⟨gx, 2, none⟩ = some (.int .i64 x2) := fun o' => (Bx5.out.more o').get3.2.2
  have y0' := (Bx.new w5 #[.string y0, .bool y1, .int .i64 y2] 33).get3
  rcases C1.out with ⟨rfl, rfl, rfl, rfl, rfl⟩ | c1
  all_goals rcases C2.out with ⟨rfl, rfl, rfl, rfl, rfl⟩ | c2
  all_goals clear C1 C2
  all_goals go_wp2_with fail
  all_goals refine (paliolaw09_cut.calls _ _ _ HC.out).mono ?_
  all_goals rintro e6 w6 ⟨rfl, hb6⟩
  all_goals have B6 := Aside0.mk (more_below (below_alloc B5.out _) hb6)
  all_goals clear hb6 k0 k1 k2 j0 j1 j2 i0 i1 i2 y0' Bb5 Bc5 Bx5 B5
  all_goals go_wp2_with fail
  all_goals refine (bound_Parse.calls _ _ _ _ _ _ HZ.out).mono ?_
  all_goals rintro e7 w7 ⟨rfl, hb7⟩
  all_goals have B7 := Aside0.mk (more_below B6.out hb7)
  all_goals clear hb7 B6
  all_goals have k7 := (Bx.new w7 #[.int .i64 z0, .bool z1, .int .i64 z2] 23).get3
  all_goals go_wp2_with fail
  all_goals refine (bound_Format.calls _ _ _ _ _ _ (HT.out.below (below_alloc B7.out _)) HZF.out).mono ?_
  all_goals rintro e8 w8 ⟨rfl, hb8⟩
  all_goals have B8 := Aside0.mk (more_below (below_alloc B7.out _) hb8)
  all_goals clear hb8 B7 k7
  all_goals go_wp2_with fail
  all_goals refine (paliolaw09_cut.calls _ _ _ HC.out).mono ?_
  all_goals rintro e9 w9 ⟨rfl, hb9⟩
  all_goals have B9 := Aside0.mk (more_below B8.out hb9)
  all_goals clear hb9 B8
  all_goals go_wp2_with fail
  all_goals refine (bound_ParseEdge.calls _ _ _ _ _ _ HV.out).mono ?_
  all_goals rintro e10 w10 ⟨rfl, hb10⟩
  all_goals have B10 := Aside0.mk (more_below B9.out hb10)
  all_goals clear hb10 B9
  all_goals have k10 := (Bx.new w10 #[.string v0, .bool v1, .int .i64 v2] 33).get3
  all_goals go_wp2_with fail
  all_goals refine (bound_FormatEdge.calls _ _ _ _ _ _ HVF.out).mono ?_
  all_goals rintro e11 w11 ⟨rfl, hb11⟩
  all_goals have B11 := Aside0.mk (more_below (below_alloc B10.out _) hb11)
  all_goals clear hb11 B10 k10
  all_goals rcases C3.out with ⟨rfl, rfl, rfl⟩ | ⟨rfl, rfl, c31, c32⟩ | c3
  all_goals rcases C4.out with ⟨rfl, rfl, rfl⟩ | c4
  all_goals clear C3 C4
  all_goals
    repeat (
      go_wp2_with fail
      refine (paliolaw09_cut.calls _ _ _ HC.out).mono ?_
      rintro e12 w12 ⟨rfl, hb12⟩
      replace B11 := Aside0.mk (more_below B11.out hb12)
      clear hb12)
  all_goals go_wp2
  all_goals go_ret
  all_goals exact ⟨by first | rfl | (simp; done) | (simp [*]; done), B11.out⟩
end Go.Proofs.YtnglofnelmojnaaDoor.P
