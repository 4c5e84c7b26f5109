/- A number's digits, as the program writes them. Conditions: that the table of powers of ten lies as the program lays it. -/
import Derived.Test.YtnglofnelmojnaaDoorShF
import Derived.Test.YtnglofnelmojnaaDoorPureDig
namespace Go.Proofs.YtnglofnelmojnaaDoor.P
open Go.RowKit Go.Lib Go.Proofs.YtnglofnelmojnaaDoorW.PrintWords Go.Proofs.YtnglofnelmojnaaDoorW.PrintLast Go.Proofs.YtnglofnelmojnaaDoorW.PrintMore

/-- The table of powers of ten. -/
def Tab (w : World) : Prop := Lib.TabIs Tryd.prog w "internal/strconv.uint64pow10" .u64 Lib.pow10Tab
theorem tab_global : Tryd.prog.globalNamed "internal/strconv.uint64pow10" = some 0 := by kernel_rfl
theorem Tab.below {w w1 : World} (h : Tab w) (hb : Below w.heap.size w w1) : Tab w1 := by
  unfold Tab Lib.TabIs World.var? at *
  rw [tab_global] at *
  simp only [Option.bind_some] at *
  have hlt : 0 < w.heap.size := by
    rcases Nat.lt_or_ge 0 w.heap.size with h1 | h1
    · exact h1
    · rw [Array.getElem?_eq_none h1] at h
      cases h
  rw [hb.block 0 hlt]
  exact h
theorem format_calls (n : Int) (h0 : -9223372036854775808 ≤ n) (h1 : n ≤ 9223372036854775807) (w : World) (ht : Tab w) :
    Calls Tryd.prog 18 #[.int .i64 n] w fun e w' => e = .returned (.string (textOf n)) ∧ Below w.heap.size w w' := by
  have HT := Aside0.mk ht
  clear ht
  go_enter Tryd.func18, Tryd.ntmps18
  go_wp2_with fail
  refine (Tryd.strconv_FormatInt_10 n h0 h1 _ HT.out).mono ?_
  rintro e w1 ⟨rfl, k, os, rfl⟩
  have hb : Below w.heap.size w (Go.Sort.grow (w.drewN k) os) := by
    have hs : (Go.Sort.grow (w.drewN k) os).heap = w.heap ++ os := rfl
    refine ⟨rfl, rfl, rfl, by rw [hs, Array.size_append]; omega, fun i hi => ?_⟩
    rw [hs, Array.getElem?_append_left hi]
  generalize Go.Sort.grow (w.drewN k) os = w2 at hb ⊢
  go_wp2
  go_ret
  exact ⟨rfl, hb⟩
def ints_Format.f (n : Int) : Option ByteArray := if -9223372036854775808 ≤ n ∧ n ≤ 9223372036854775807 then some (textOf n) else none
theorem ints_Format.calls (n : Int) (r : ByteArray) (w : World) (ht : Tab w) (h : ints_Format.f n = some r) :
    Calls Tryd.prog 18 #[.int .i64 n] w fun e w' => e = .returned (.string r) ∧ Below w.heap.size w w' := by
  unfold ints_Format.f at h
  split at h
  case isFalse => cases h
  case isTrue hb =>
    injection h with h
    subst h
    exact format_calls n hb.1 hb.2 w ht
end Go.Proofs.YtnglofnelmojnaaDoor.P
