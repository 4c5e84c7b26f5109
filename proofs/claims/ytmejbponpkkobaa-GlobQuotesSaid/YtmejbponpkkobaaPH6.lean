/- The characters of a text, as its range hands them over, and as a row of them lies in memory. Conditions: each theorem names its own. -/
import Derived.Test.YtmejbponpkkobaaPx0
import Derived.Lib.OthersKept
import Derived.Laws.IdiomStrings
namespace Go.Proofs.Ytmejbponpkkobaa.P
open Go.RowKit Go.Proofs.YtmejbponpkkobaaW.PrintWords Go.Proofs.YtmejbponpkkobaaW.PrintLast Go.Proofs.YtmejbponpkkobaaW.PrintMore

/-- The characters of a text from a place on. -/
def rs (s : ByteArray) : Nat → Nat → List Int
  | 0, _ => []
  | f + 1, pos => if pos < s.size then ((Utf8.decode s pos).1 : Int) :: rs s f (pos + (Utf8.decode s pos).2) else []
def runes (s : ByteArray) : List Int := rs s s.size 0
theorem rs_len (s : ByteArray) : ∀ f pos, (rs s f pos).length ≤ f
  | 0, _ => by simp [rs]
  | f + 1, pos => by
    have := rs_len s f (pos + (Utf8.decode s pos).2)
    rw [rs]
    split
    · rw [List.length_cons]; omega
    · simp
theorem runes_len (s : ByteArray) : (runes s).length ≤ s.size := rs_len s s.size 0
theorem conv_rs (s : ByteArray) : ∀ f pos acc, Conv.runesFrom s f pos acc = acc ++ ((rs s f pos).map (Value.int .i32)).toArray
  | 0, _, acc => by simp [rs, Conv.runesFrom]
  | f + 1, pos, acc => by
    rw [Conv.runesFrom, rs]
    split
    · show Conv.runesFrom s f (pos + (Utf8.decode s pos).2) (acc.push (.int .i32 ((Utf8.decode s pos).1 : Int))) = _
      rw [conv_rs s f]
      simp
    · simp
theorem conv_runes (s : ByteArray) : Conv.runesFrom s s.size 0 #[] = ((runes s).map (Value.int .i32)).toArray := by
  rw [conv_rs]
  simp [runes]
theorem width_pos (s : ByteArray) (pos : Nat) (h : pos < s.size) : 1 ≤ (Utf8.decode s pos).2 := by
  by_cases ha : (s[pos]'h).toNat < 128
  · rw [decode_ascii s pos h ha]
    exact Nat.le_refl _
  · exact (decode_high s pos h (by omega)).2
/-- A text's characters laid as a row: the conversion, the world behind it, and what lies there. -/
theorem runes_conv (s : ByteArray) (hs : s.size ≤ 1000000) (w : World) : ∃ (c : Nat) (w0 : World), (convert 9 31 (.string s)).run Try.prog w = .ok (.slice (some ⟨w.heap.size, 0, none⟩) (runes s).length c) w0 ∧ (runes s).length ≤ c ∧ w0.heap.size = w.heap.size + 1 ∧ Below w.heap.size w w0 ∧ Kd.C (Kd.int .i32) w0 (some ⟨w.heap.size, 0, none⟩) (runes s).length (runes s) := by
  have hl := runes_len s
  have hc := run_runes_of_string (P := Try.prog) w 9 31 21 s Try.underlying9 Try.underlying31 Try.underlying21 (by rw [conv_runes]; simp; omega)
  rw [conv_runes] at hc
  simp only [List.size_toArray, List.length_map] at hc
  refine ⟨_, _, hc, grownCap_ge w _ 0 21, by simp, below_alloc (below_drew1 (Below.refl _ _)) _, Kd.C_of_reads (d := 0) ⟨rfl, by omega, fun hn => ⟨_, rfl, fun j hj => ?_⟩⟩⟩
  have h2 := World.cell?_alloc_mark w.drew (((runes s).map (Value.int .i32)).toArray ++ Array.replicate (grownCap w (runes s).length 0 21 - (runes s).length) (.int .i32 0)) 21 (0, 0) j
  have h3 : (w.drew).heap.size = w.heap.size := rfl
  rw [h3] at h2
  have h4 : (Addr.add ⟨w.heap.size, 0, none⟩ j) = ⟨w.heap.size, j, none⟩ := by simp [Addr.add]; omega
  rw [h4, h2, Array.getElem?_append_left (by simpa using hj)]
  simp [List.getD_eq_getElem?_getD, hj]
end Go.Proofs.Ytmejbponpkkobaa.P
