/- The law BoundReads answers true: the pure part. Conditions: the end's number is one of 64 bits. -/
import Derived.Test.YtnglofnelmojnaaDoorPureEnds
import Derived.Test.YtnglofnelmojnaaDoorPH9
namespace Go.Proofs.YtnglofnelmojnaaDoor.P
open Go.RowKit Go.Lib Go.Proofs.YtnglofnelmojnaaDoorW.PrintWords Go.Proofs.YtnglofnelmojnaaDoorW.PrintLast Go.Proofs.YtnglofnelmojnaaDoorW.PrintMore

theorem shown_true : paliolaw09_shown.f = some true := by decide +kernel
theorem cut_100 (s : ByteArray) : ∃ c : ByteArray, paliolaw09_cut.f s = some c ∧ c.size ≤ 100 := by
  unfold paliolaw09_cut.f
  have h1 : ((mn (s.size : Int) 100) : Int).toNat ≤ 100 ∧ 0 ≤ mn (s.size : Int) 100 ∧ mn (s.size : Int) 100 ≤ (s.size : Int) := by unfold mn; split <;> omega
  rw [if_pos h1.2.1, if_pos h1.2.2]
  exact ⟨_, rfl, by rw [ByteArray.size_extract]; omega⟩
theorem reads_pure (s : ByteArray) (n : Int) (o : Bool) (i : Int) (h0 : -9223372036854775808 ≤ n) (h1 : n ≤ 9223372036854775807) : paliolaw09_BoundReads.f 132 s n o i = some true := by
  obtain ⟨c, hcut, hcs⟩ := cut_100 s
  obtain ⟨x0, x1, x2, e, hp1, hp2, _, _⟩ := parse_end c (by omega)
  obtain ⟨hf1, hf2⟩ := fmt_end n o i h0 h1 132 (by omega)
  unfold paliolaw09_BoundReads.f
  rw [shown_true, hcut]
  simp only [Option.bind_some, hp1, hp2, hf1, hf2, if_true, beq_self_eq_true, Bool.and_self]
theorem wf_lo {n : Int} (h : (Lit.int .i64 n).wf = true) : -9223372036854775808 ≤ n := by
  have h1 : IntKind.i64.min = -9223372036854775808 := rfl
  simp only [Lit.wf, Bool.and_eq_true, decide_eq_true_eq] at h
  omega
theorem wf_hi {n : Int} (h : (Lit.int .i64 n).wf = true) : n ≤ 9223372036854775807 := by
  have h2 : IntKind.i64.max = 9223372036854775807 := rfl
  simp only [Lit.wf, Bool.and_eq_true, decide_eq_true_eq] at h
  omega
end Go.Proofs.YtnglofnelmojnaaDoor.P
