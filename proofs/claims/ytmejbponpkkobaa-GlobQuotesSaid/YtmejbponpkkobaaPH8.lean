/- Whether a text matches a pattern: a call of Match comes to what the parts of the pattern say of the text. Conditions: each theorem names its own. -/
import Derived.Test.YtmejbponpkkobaaPH7
import Derived.Test.YtmejbponpkkobaaPureMats
namespace Go.Proofs.Ytmejbponpkkobaa.P
open Go.RowKit Go.Proofs.YtmejbponpkkobaaW.PrintWords Go.Proofs.YtmejbponpkkobaaW.PrintLast Go.Proofs.YtmejbponpkkobaaW.PrintMore

def glob_Match.f (p s : ByteArray) : Option (Bool × Int) := some (if 64 < p.size ∨ 512 < s.size then (false, 20) else (mats (prt (runes p) 0) (runes s), 0))
theorem prt_len : ∀ (l : List Int) (n : Nat), (prt l n).length ≤ l.length
  | [], _ => by simp [prt]
  | _ :: t, n + 1 => by have := prt_len t n; simp only [prt, List.length_cons]; omega
  | r :: t, 0 => by
    have h0 := prt_len t 0
    have h1 := prt_len t 1
    have h2 := prt_len t ((clo t).toNat + 1)
    simp only [prt, List.length_cons]
    split
    · simp only [List.length_cons]; omega
    · split
      · simp only [List.length_cons]; omega
      · split
        · simp only [List.length_cons]; omega
        · split <;> simp only [List.length_cons] <;> omega
set_option maxHeartbeats 4000000 in
set_option maxRecDepth 100000 in
theorem glob_Match.calls (p s : ByteArray) (r1 : Bool) (r2 : Int) (w : World) (h : glob_Match.f p s = some (r1, r2)) :
    Calls Try.prog 10 #[.string p, .string s] w fun e w' => e = .returned (.tuple #[.bool r1, .int .i64 r2]) ∧ Below w.heap.size w w' := by
  unfold glob_Match.f at h
  by_cases hp : 64 < p.size
  · rw [if_pos (.inl hp)] at h
    cases h
    go_enter Try.func10, Try.ntmps10
    go_wp2
    go_ret2
    exact ⟨rfl, Below.refl _ w⟩
  · by_cases hs : 512 < s.size
    · rw [if_pos (.inr hs)] at h
      cases h
      go_enter Try.func10, Try.ntmps10
      go_wp2
      go_ret2
      exact ⟨rfl, Below.refl _ w⟩
    · rw [if_neg (by omega)] at h
      injection h with h
      injection h with ha hb'
      subst ha
      subst hb'
      obtain ⟨f, hf⟩ := gm_mats (prt (runes p) 0) (runes s)
      have HF := Aside0.mk hf
      clear hf
      go_enter Try.func10, Try.ntmps10
      go_wp2_with fail
      refine (parts_calls p (by omega) _).mono ?_
      rintro e w1 ⟨v, rfl, hv, hb⟩
      obtain ⟨A, c, rfl, hc, hC⟩ := Kd.R_reads hv
      obtain ⟨d, w2, hconv, hd, hsz, hb2, hC2⟩ := runes_conv s (by omega) w1
      have HC := Aside0.mk (Kd.C_below hC hb2)
      have HC2 := Aside0.mk hC2
      have HB := Aside0.mk (more_below hb hb2)
      clear hv hb hC hC2 hb2
      go_wp2_with fail
      refine (matches_calls A c _ _ d _ f _ _ HC.out hc HC2.out HF.out).mono ?_
      rintro e w3 ⟨rfl, hb3⟩
      go_wp2
      go_ret2
      exact ⟨rfl, more_below HB.out hb3⟩
end Go.Proofs.Ytmejbponpkkobaa.P
