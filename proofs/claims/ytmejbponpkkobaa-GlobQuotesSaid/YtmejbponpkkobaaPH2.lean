/- What a class says of a character: whether one of its spans has it, or none. Conditions: each theorem names its own. -/
import Derived.Test.YtmejbponpkkobaaPH1
import Derived.Shelf.Abstract
namespace Go.Proofs.Ytmejbponpkkobaa.P
open Go.RowKit Go.Proofs.YtmejbponpkkobaaW.PrintWords Go.Proofs.YtmejbponpkkobaaW.PrintLast Go.Proofs.YtmejbponpkkobaaW.PrintMore

theorem func66_enters (args : Array Value) (w : World) : (callFunc 66 args).run Try.prog w = .ok (.enter 66 args) w := enters_of Try.func66 (by kernel_rfl) rfl args w
theorem any_get {α : Type} (p : α → Bool) (xs : List α) (z : α) (k : Nat) (hk : k < xs.length) (h : p (xs.getD k z) = true) : xs.any p = true := by
  rw [List.any_eq_true]
  refine ⟨xs[k], List.getElem_mem hk, ?_⟩
  rw [List.getD_eq_getElem?_getD, List.getElem?_eq_getElem hk] at h
  exact h
theorem none_any {α : Type} (p : α → Bool) (xs : List α) (z : α) (h : ∀ j, j < xs.length → p (xs.getD j z) = false) : xs.any p = false := by
  rw [Bool.eq_false_iff]
  intro hp
  rw [List.any_eq_true] at hp
  obtain ⟨x, hx, hpx⟩ := hp
  obtain ⟨i, hi, rfl⟩ := List.mem_iff_getElem.1 hx
  have h2 := h i hi
  rw [List.getD_eq_getElem?_getD, List.getElem?_eq_getElem hi] at h2
  exact absurd hpx (by simpa using h2)
set_option maxHeartbeats 3200000 in
theorem spans_index (A : Option Addr) (c : Nat) (xs : List S67) (r : Int) (B : Nat) (w : World) (hB : B < w.heap.size) (hr : w.cell? ⟨B, 0, none⟩ = some (.int .i32 r)) (hx : Kd.C k67 w A xs.length xs) :
    Calls Try.prog 67 #[.slice A xs.length c, .func (.func 66) #[] #[.pointer (some ⟨B, 0, none⟩)]] w fun e w' => (∃ i : Int, e = .returned (.int .i64 i) ∧ decide (0 ≤ i) = xs.any (inSpan r)) ∧ Below w.heap.size w w' := by
  have HX := Aside0.mk hx
  have hmax := Kd.C_max hx
  clear hx
  have eg := func66_enters
  go_enter Try.func67, Try.ntmps67
  go_wp2
  go_loopg [5, 8] xs.length (fun gg _ s8 wr => ∃ kk : Nat, kk ≤ xs.length ∧ xs.length - kk ≤ gg ∧ s8 = .int .i64 kk ∧ Aside0 (Below w.heap.size w wr) ∧ Aside0 (∀ j, j < kk → inSpan r (xs.getD j z67) = false))
  case atStart => exact ⟨0, Nat.zero_le _, by omega, rfl, ⟨Below.refl _ w⟩, ⟨fun j hj => absurd hj (Nat.not_lt_zero _)⟩⟩
  case round =>
    obtain ⟨kk, hkk, hg, rfl, BW, NO⟩ := hrel
    by_cases hlt : kk < xs.length
    · have hltz : (kk : Int) < (xs.length : Int) := by omega
      obtain ⟨ad, e1, hc0, hc1⟩ := at_T67 (Kd.C_below HX.out BW.out) (kk : Int) (by omega) (by omega)
      subst e1
      simp only [Int.toNat_natCast] at hc0 hc1
      have hBr : B < wr.heap.size := Nat.lt_of_lt_of_le hB BW.out.size
      have hrr : wr.cell? ⟨B, 0, none⟩ = some (.int .i32 r) := (BW.out.cell (p := ⟨B, 0, none⟩) hB).trans hr
      have hat : xs.getD kk z67 = rd_T67 xs (kk : Int) := by simp only [rd_T67, Int.toNat_natCast]
      cases hq : inSpan r (rd_T67 xs (kk : Int)) with
      | true =>
        go_wp2_with fail
        refine (span_is (rd_T67 xs (kk : Int)) r B _ hBr hrr).mono ?_
        rintro e w1 ⟨rfl, hb⟩
        rw [hq]
        go_wp2
        go_ret
        refine ⟨⟨kk, rfl, ?_⟩, BW.out.trans (hb.mono BW.out.size)⟩
        rw [any_get (inSpan r) xs z67 kk (by omega) (by rw [hat]; exact hq)]
        exact decide_eq_true (by omega)
      | false =>
        go_wp2_with fail
        refine (span_is (rd_T67 xs (kk : Int)) r B _ hBr hrr).mono ?_
        rintro e w1 ⟨rfl, hb⟩
        rw [hq]
        go_wp2
        go_roundg (xs.length - (kk + 1))
        case measure => omega
        case rel =>
          refine ⟨kk + 1, by omega, by omega, by go_num, ⟨BW.out.trans (hb.mono BW.out.size)⟩, ⟨fun j hj => ?_⟩⟩
          by_cases e : j = kk
          · subst e
            rw [hat]; exact hq
          · exact NO.out j (by omega)
    · have hltz : ¬ (kk : Int) < (xs.length : Int) := by omega
      have : kk = xs.length := by omega
      rw [this] at NO
      go_wp2
      go_ret
      exact ⟨⟨-1, rfl, by rw [none_any (inSpan r) xs z67 (by exact NO.out)]; rfl⟩, BW.out⟩

set_option maxHeartbeats 3200000 in
theorem spans_has (A : Option Addr) (c : Nat) (xs : List S67) (r : Int) (B : Nat) (w : World) (hB : B < w.heap.size) (hr : w.cell? ⟨B, 0, none⟩ = some (.int .i32 r)) (hx : Kd.C k67 w A xs.length xs) :
    Calls Try.prog 65 #[.slice A xs.length c, .func (.func 66) #[] #[.pointer (some ⟨B, 0, none⟩)]] w fun e w' => e = .returned (.bool (xs.any (inSpan r))) ∧ Below w.heap.size w w' := by
  have HX := Aside0.mk hx
  clear hx
  go_enter Try.func65, Try.ntmps65
  go_wp2_with fail
  refine (spans_index A c xs r B _ hB hr HX.out).mono ?_
  rintro e w1 ⟨⟨i, rfl, hi⟩, hb⟩
  go_wp2
  go_ret
  exact ⟨by rw [← hi]; rfl, hb⟩

set_option maxHeartbeats 3200000 in
theorem class_is (A : Option Addr) (c : Nat) (xs : List S67) (no : Bool) (r : Int) (w : World) (hx : Kd.C k67 w A xs.length xs) :
    Calls Try.prog 64 #[.agg #[.slice A xs.length c, .bool no], .int .i32 r] w fun e w' => e = .returned (.bool (xs.any (inSpan r) != no)) ∧ Below w.heap.size w w' := by
  have HX := Aside0.mk hx
  clear hx
  go_enter Try.func64, Try.ntmps64
  go_wp2_with fail
  refine (spans_has A c xs r _ _ (by simp) (by simp) (Kd.C_below HX.out (below_alloc (below_alloc (Below.refl _ _) _) _))).mono ?_
  rintro e w1 ⟨rfl, hb⟩
  obtain ⟨hc, hf⟩ := bcell hb
  have hz : w.heap.size < w1.heap.size := by have := hb.size; simp at this; omega
  have hz1 : w.heap.size + 1 < w1.heap.size := by have := hb.size; simp at this; omega
  have t1 := more_below (below_alloc (below_alloc (Below.refl _ _) _) _) hb
  go_wp2
  go_ret
  exact ⟨rfl, t1⟩
end Go.Proofs.Ytmejbponpkkobaa.P
