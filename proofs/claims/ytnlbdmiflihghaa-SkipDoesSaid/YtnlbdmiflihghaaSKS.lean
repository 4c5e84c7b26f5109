/- shown: three entries in their order. Conditions: each theorem names its own. -/
import Derived.Test.YtnlbdmiflihghaaSKL
namespace Go.Proofs.Ytnlbdmiflihghaa.P
open Go.RowKit Go.Shelf Go.Proofs.YtnlbdmiflihghaaW.PrintWords Go.Proofs.YtnlbdmiflihghaaW.PrintLast Go.Proofs.YtnlbdmiflihghaaW.PrintMore Go.Proofs.Ytnlbdmiflihghaa.SK
attribute [local go_sem] Oper.semAt_some

/-- A list of the function's own. -/
structure Own (m : Nat) (w0 w : World) (b : Nat) (F : List Nat) (p : Pl2) : Prop where
  ls : Ls w b F p
  ge : ∀ c, c ∈ b :: F → m ≤ c
  bl : Below m w0 w
theorem Own.lt {m : Nat} {w0 w : World} {b : Nat} {F : List Nat} {p : Pl2} (h : Own m w0 w b F p) : m < w.heap.size := by
  have h1 := h.ge b List.mem_cons_self
  have h2 := h.ls.lt (List.mem_cons_self (a := b) (l := F))
  omega
theorem Own.below {m : Nat} {w0 w w' : World} {b : Nat} {F : List Nat} {p : Pl2} (h : Own m w0 w b F p) (hb : Below w.heap.size w w') : Own m w0 w' b F p := ⟨h.ls.below hb, h.ge, h.bl.trans (hb.mono (Nat.le_of_lt h.lt))⟩
theorem Own.after {m : Nat} {w0 w w' : World} {b : Nat} {F : List Nat} {p p' : Pl2} (h : Own m w0 w b F p) (ha : After w b F p' w') : ∃ F', Own m w0 w' b F' p' := by
  obtain ⟨F', h1, h2, h3⟩ := ha
  have hlt := h.lt
  refine ⟨F', h1, fun c hc => ?_, h.bl.trans (h2.toBelow (Nat.le_of_lt hlt) h.ge)⟩
  rcases List.mem_cons.mp hc with rfl | hc
  · exact h.ge _ List.mem_cons_self
  · rcases h3 c hc with h4 | h4
    · exact h.ge c (List.mem_cons_of_mem _ h4)
    · omega
def eA : En := (⟨#[97]⟩, 1)
def eB : En := (⟨#[98]⟩, 1)
def eC : En := (⟨#[99]⟩, 0)
def q1 : Pl2 := (insP eA 1 ([], [])).2
def q2 : Pl2 := (insP eB 2 q1).2
def q3 : Pl2 := (insP eC 1 q2).2
theorem s1 : (insP eA 1 ([], [])).1 = 0 := by decide +kernel
theorem s2 : (insP eB 2 q1).1 = 0 := by decide +kernel
theorem s3 : (insP eC 1 q2).1 = 0 := by decide +kernel
theorem s4 : (insP eC 1 q3).1 = 90 := by decide +kernel
theorem s5 : (insP eC 1 q3).2 = q3 := by kernel_rfl
theorem s6 : atP q3 0 = (eC, true) := by kernel_rfl
theorem s7 : spansP q3 2 = [3] := by decide +kernel
theorem l1_ : q1.1.length < 1000 := by decide +kernel
theorem l2_ : q2.1.length < 1000 := by decide +kernel
theorem l3_ : q3.1.length < 1000 := by decide +kernel
set_option maxHeartbeats 8000000 in
set_option maxRecDepth 100000 in
theorem shown_calls (w : World) : Calls Try.prog 10 #[] w fun r w' => r = .returned (.bool true) ∧ Below w.heap.size w w' := by
  go_enter Try.func10, Try.ntmps10
  go_wp2_with fail
  refine (ls_new w).mono ?_
  rintro r w1 ⟨rfl, hL, hb⟩
  have hO1 : Own w.heap.size w w1 w.heap.size [] ([], []) := ⟨hL, fun c hc => by simp at hc; omega, hb⟩
  clear hL hb
  have c1 := ls_insert hO1.ls eA 1 (by decide)
  rw [s1] at c1
  go_wp2_with fail
  refine c1.mono ?_
  rintro r w2 ⟨rfl, ha⟩
  obtain ⟨F2, hO2⟩ : ∃ F', Own w.heap.size w w2 w.heap.size F' q1 := hO1.after ha
  clear c1 ha hO1
  have c2 := ls_insert hO2.ls eB 2 l1_
  rw [s2] at c2
  go_wp2_with fail
  refine c2.mono ?_
  rintro r w3 ⟨rfl, ha⟩
  obtain ⟨F3, hO3⟩ : ∃ F', Own w.heap.size w w3 w.heap.size F' q2 := hO2.after ha
  clear c2 ha hO2
  have c3 := ls_insert hO3.ls eC 1 l2_
  rw [s3] at c3
  go_wp2_with fail
  refine c3.mono ?_
  rintro r w4 ⟨rfl, ha⟩
  obtain ⟨F4, hO4⟩ : ∃ F', Own w.heap.size w w4 w.heap.size F' q3 := hO3.after ha
  clear c3 ha hO3
  have c4 := ls_insert hO4.ls eC 1 l3_
  rw [s4, s5] at c4
  go_wp2_with fail
  refine c4.mono ?_
  rintro r w5 ⟨rfl, ha⟩
  obtain ⟨F5, hO5⟩ := hO4.after ha
  clear c4 ha hO4
  have c5 := ls_at hO5.ls 0
  rw [show atP q3 0 = (eC, true) from s6] at c5
  go_wp2_with fail
  refine c5.mono ?_
  rintro r w6 ⟨rfl, hb6⟩
  have hO6 := hO5.below hb6
  clear c5 hb6 hO5
  have hO7 := hO6.below (below_alloc (Below.refl _ _) (.cells #[.string ⟨#[99]⟩, .int .i64 0] 28))
  have e0 : (w6.alloc (.cells #[.string ⟨#[99]⟩, .int .i64 0] 28)).cell? ⟨w6.heap.size, 0, none⟩ = some (.string ⟨#[99]⟩) := by simp
  have e1 : (w6.alloc (.cells #[.string ⟨#[99]⟩, .int .i64 0] 28)).cell? ⟨w6.heap.size, 1, none⟩ = some (.int .i64 0) := by simp
  have hlt7 : w6.heap.size < (w6.alloc (.cells #[.string ⟨#[99]⟩, .int .i64 0] 28)).heap.size := by simp
  have c6 := ls_spans hO7.ls 2
  rw [s7] at c6
  go_wp2_with fail
  refine c6.mono ?_
  rintro r w8 ⟨v, rfl, hR, hb8⟩
  have hO8 := hO7.below hb8
  replace e0 := (hb8.cell (p := ⟨w6.heap.size, 0, none⟩) hlt7).trans e0
  replace e1 := (hb8.cell (p := ⟨w6.heap.size, 1, none⟩) hlt7).trans e1
  obtain ⟨A, c, rfl, hc, hC⟩ := hR.reads
  have r0 : w8.cell? ((A.getD ⟨0, 0, none⟩)) = some (.int .i64 3) ∧ ∃ a0, A = some a0 := by
    obtain ⟨ad, c', e, _, hK, hc0⟩ := Kd.C_get hC 0 0 (by omega) (by decide)
    subst e
    have : c' = [.int .i64 3] := hK
    subst this
    have := hc0 0 _ rfl
    rw [show (0 : Int).toNat * (Kd.int .i64).sz + 0 = 0 by rfl] at this
    refine ⟨?_, ad, rfl⟩
    have h0 : ad.add 0 = ad := by unfold Addr.add; split <;> simp_all
    rw [h0] at this
    exact this
  obtain ⟨r0, a0, rfl⟩ := r0
  replace r0 : w8.cell? a0 = some (.int .i64 3) := r0
  have HO8 := Aside0.mk hO8
  have hq := eq_entry eC eC
  clear hO8 hR hC c6 hb8 hO7 hO6
  have hl1 : (([3] : List Int).length : Int) = 1 := rfl
  go_wp2
  go_ret
  exact ⟨rfl, HO8.out.bl⟩
end Go.Proofs.Ytnlbdmiflihghaa.P
