/- The statement SkipNone: a nil list has nothing. Conditions: each theorem names its own. -/
import Derived.Test.YtnlbdmiflihghaaSKS
import Derived.Test.YtnlbdmiflihghaaSKN
namespace Go.Proofs.Ytnlbdmiflihghaa.P
open Go.RowKit Go.Shelf Go.Proofs.YtnlbdmiflihghaaW.PrintWords Go.Proofs.YtnlbdmiflihghaaW.PrintLast Go.Proofs.YtnlbdmiflihghaaW.PrintMore Go.Proofs.Ytnlbdmiflihghaa.SK
attribute [local go_sem] Oper.semAt_some

def paliolaw10_SkipNone.f (_a0 : Int) (_a1 : ByteArray) (_a2 _a3 _a4 _a5 : Int) : Option Bool := some true
/-- An act's cells. -/
def actC (d : Int) (e : En) (l f t : Int) (j : Nat) : Value := if j = 0 then .int .i64 d else if j = 1 then .string e.1 else if j = 2 then .int .i64 e.2 else if j = 3 then .int .i64 l else if j = 4 then .int .i64 f else .int .i64 t
theorem act_new (w : World) (d : Int) (e : En) (l f t : Int) : Bk (w.alloc (.cells #[.int .i64 d, .string e.1, .int .i64 e.2, .int .i64 l, .int .i64 f, .int .i64 t] 40)) w.heap.size 40 6 (actC d e l f t) := by
  refine Bk.of _ (World.alloc_heap_new w _) rfl (fun j hj => ?_)
  have : j = 0 ∨ j = 1 ∨ j = 2 ∨ j = 3 ∨ j = 4 ∨ j = 5 := by
    have : j < 6 := hj
    omega
  rcases this with rfl | rfl | rfl | rfl | rfl | rfl <;> rfl
/-- What a law's own act tells, wherever the run stands. -/
structure ActAt (w0 w : World) (d : Int) (e : En) (l f t : Int) : Prop where
  bk : Bk w w0.heap.size 40 6 (actC d e l f t)
  bl : Below w0.heap.size w0 w
section
variable {w0 w w' : World} {d l f t : Int} {e : En}
theorem ActAt.next (h : ActAt w0 w d e l f t) (hb : Below w.heap.size w w') : ActAt w0 w' d e l f t := ⟨h.bk.below hb, h.bl.trans (hb.mono h.bl.size)⟩
theorem ActAt.c0 (h : ActAt w0 w d e l f t) : w.cell? ⟨w0.heap.size, 0, none⟩ = some (.int .i64 d) := h.bk.cell (show 0 < 6 by omega)
theorem ActAt.c1 (h : ActAt w0 w d e l f t) : w.cell? ⟨w0.heap.size, 1, none⟩ = some (.string e.1) := h.bk.cell (show 1 < 6 by omega)
theorem ActAt.c2 (h : ActAt w0 w d e l f t) : w.cell? ⟨w0.heap.size, 2, none⟩ = some (.int .i64 e.2) := h.bk.cell (show 2 < 6 by omega)
theorem ActAt.c3 (h : ActAt w0 w d e l f t) : w.cell? ⟨w0.heap.size, 3, none⟩ = some (.int .i64 l) := h.bk.cell (show 3 < 6 by omega)
theorem ActAt.c4 (h : ActAt w0 w d e l f t) : w.cell? ⟨w0.heap.size, 4, none⟩ = some (.int .i64 f) := h.bk.cell (show 4 < 6 by omega)
theorem ActAt.c5 (h : ActAt w0 w d e l f t) : w.cell? ⟨w0.heap.size, 5, none⟩ = some (.int .i64 t) := h.bk.cell (show 5 < 6 by omega)
end
set_option maxHeartbeats 8000000 in
set_option maxRecDepth 100000 in
theorem paliolaw10_SkipNone.calls (a0_0 : Int) (a0_1 : ByteArray) (a0_2 a0_3 a0_4 a0_5 : Int) (r : Bool) (w : World) (h : paliolaw10_SkipNone.f a0_0 a0_1 a0_2 a0_3 a0_4 a0_5 = some r) :
    Calls Try.prog 9 #[.agg #[.int .i64 a0_0, .string a0_1, .int .i64 a0_2, .int .i64 a0_3, .int .i64 a0_4, .int .i64 a0_5]] w fun e w' => e = .returned (.bool r) ∧ Below w.heap.size w w' := by
  obtain rfl : r = true := by
    injection h with h
    exact h.symm
  clear h
  have hA : ActAt w (w.alloc (.cells #[.int .i64 a0_0, .string a0_1, .int .i64 a0_2, .int .i64 a0_3, .int .i64 a0_4, .int .i64 a0_5] 40)) a0_0 (a0_1, a0_2) a0_3 a0_4 a0_5 := ⟨act_new w a0_0 (a0_1, a0_2) a0_3 a0_4 a0_5, below_alloc (Below.refl _ _) _⟩
  go_enter Try.func9, Try.ntmps9
  simp only [List.append_eq, List.cons_append, List.nil_append]
  go_wp2_with fail
  generalize World.alloc w _ = w1 at hA ⊢
  refine (shown_calls w1).mono ?_
  rintro e w2 ⟨rfl, hb⟩
  replace hA := hA.next hb
  have c1 := hA.c1
  have c2 := hA.c2
  clear hb
  go_wp2_with fail
  refine (seek_nil (a0_1, a0_2) w2).mono ?_
  rintro e w3 ⟨rfl, hb⟩
  replace hA := hA.next hb
  have c4 := hA.c4
  clear hb c1 c2
  go_wp2_with fail
  refine (at_nil a0_4 w3).mono ?_
  rintro e w4 ⟨rfl, hb⟩
  replace hA := (hA.next hb).next (below_alloc (Below.refl _ _) (.cells #[.string ⟨#[]⟩, .int .i64 0] 28))
  have HA := Aside0.mk hA
  clear hb c4 hA
  go_upto_region 5 with fail
  generalize World.alloc w4 _ = w5 at HA ⊢
  have c1 := HA.out.c1
  have c2 := HA.out.c2
  have c3 := HA.out.c3
  go_wp2_with fail
  refine (insert_nil (a0_1, a0_2) a0_3 w5).mono ?_
  rintro e w6 ⟨rfl, hb⟩
  replace HA := Aside0.mk (HA.out.next hb)
  clear hb c1 c2 c3
  have c1 := HA.out.c1
  have c2 := HA.out.c2
  go_wp2_with fail
  refine (delete_nil (a0_1, a0_2) w6).mono ?_
  rintro e w7 ⟨rfl, hb⟩
  replace HA := Aside0.mk (HA.out.next hb)
  clear hb c1 c2
  go_wp2_with fail
  refine (len_nil w7).mono ?_
  rintro e w8 ⟨rfl, rfl⟩
  have c4 := HA.out.c4
  have c5 := HA.out.c5
  go_wp2_with fail
  refine (range_nil a0_4 a0_5 w8).mono ?_
  rintro e w9 ⟨rfl, hb⟩
  replace HA := Aside0.mk (HA.out.next hb)
  clear hb c4 c5
  have c4 := HA.out.c4
  have c5 := HA.out.c5
  go_wp2_with fail
  refine (back_nil a0_4 a0_5 w9).mono ?_
  rintro e w10 ⟨rfl, rfl⟩
  clear c4 c5
  have c4 := HA.out.c4
  have c5 := HA.out.c5
  go_wp2_with fail
  refine (cut_nil a0_4 a0_5 w10).mono ?_
  rintro e w11 ⟨rfl, rfl⟩
  clear c4 c5
  go_wp2_with fail
  refine (levels_nil w11).mono ?_
  rintro e w12 ⟨rfl, rfl⟩
  have c3 := HA.out.c3
  go_wp2_with fail
  refine (spans_nil a0_3 w12).mono ?_
  rintro e w13 ⟨rfl, rfl⟩
  clear c3
  go_wp2
  go_ret
  exact ⟨rfl, HA.out.bl⟩
end Go.Proofs.Ytnlbdmiflihghaa.P
