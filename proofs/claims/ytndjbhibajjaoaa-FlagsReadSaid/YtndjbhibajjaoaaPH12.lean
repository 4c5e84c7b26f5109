/- What the document's 'Read' answers. Conditions: that the list has at most a thousand words, of at most a thousand bytes. -/
import Derived.Test.YtndjbhibajjaoaaPH11
namespace Go.Proofs.Ytndjbhibajjaoaa.P
open Go.RowKit Go.Proofs.YtndjbhibajjaoaaW.PrintWords Go.Proofs.YtndjbhibajjaoaaW.PrintLast Go.Proofs.YtndjbhibajjaoaaW.PrintMore
/-- The flags of the words that a list begins with, how many words they are, whether they exclude each other. -/
def palioref12_Read.f (l0 : List ByteArray) : Option (Bool × Bool × Bool × Bool × Bool × Bool × Int × Int) :=
  if l0.length ≤ 1000 ∧ ∀ s ∈ l0, s.size ≤ 1000 then (palioref12_Right.f (decide ((0 : Fin 6) ∈ rnw l0)) (decide ((1 : Fin 6) ∈ rnw l0)) (decide ((2 : Fin 6) ∈ rnw l0)) (decide ((3 : Fin 6) ∈ rnw l0)) (decide ((4 : Fin 6) ∈ rnw l0)) (decide ((5 : Fin 6) ∈ rnw l0))).map fun ok => if ok = true then ((decide ((0 : Fin 6) ∈ rnw l0)), (decide ((1 : Fin 6) ∈ rnw l0)), (decide ((2 : Fin 6) ∈ rnw l0)), (decide ((3 : Fin 6) ∈ rnw l0)), (decide ((4 : Fin 6) ∈ rnw l0)), (decide ((5 : Fin 6) ∈ rnw l0)), ((rnw l0).length : Int), 0) else (false, false, false, false, false, false, 0, 110) else none
theorem palioref12_Read.calls (A0 : Option Addr) (c0 : Nat) (l0 : List ByteArray) (r1 r2 r3 r4 r5 r6 : Bool) (r7 r8 : Int) (w : World) (hr0 : Kd.C Kd.string w A0 l0.length l0) (_hc0 : l0.length ≤ c0) (h : palioref12_Read.f l0 = some (r1, r2, r3, r4, r5, r6, r7, r8)) :
    Calls Try.prog 16 #[.slice A0 l0.length c0] w fun e w' => e = .returned (.tuple #[.agg #[.bool r1, .bool r2, .bool r3, .bool r4, .bool r5, .bool r6], .int .i64 r7, .int .i64 r8]) ∧ Below w.heap.size w w' := by
  unfold palioref12_Read.f at h
  by_cases hc : l0.length ≤ 1000 ∧ ∀ s ∈ l0, s.size ≤ 1000
  · rw [if_pos hc] at h
    obtain ⟨ok, hok, h⟩ := Option.map_eq_some_iff.mp h
    refine (refread_calls refUp l0 hc.2 A0 c0 w hr0 hc.1 ok hok).mono ?_
    rintro e w' ⟨rfl, hb⟩
    refine ⟨?_, hb⟩
    cases ok
    · rw [if_neg (by simp)] at h ⊢
      simp only [Prod.mk.injEq] at h
      obtain ⟨rfl, rfl, rfl, rfl, rfl, rfl, rfl, rfl⟩ := h
      simp [fls]
    · rw [if_pos rfl] at h ⊢
      simp only [Prod.mk.injEq] at h
      obtain ⟨rfl, rfl, rfl, rfl, rfl, rfl, rfl, rfl⟩ := h
      rfl
  · rw [if_neg hc] at h
    cases h
end Go.Proofs.Ytndjbhibajjaoaa.P
