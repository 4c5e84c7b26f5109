/- Patterns without signs: each of their parts is one character. Conditions: each theorem names its own. -/
import Derived.Test.YtmejbponpkkobaaPH11
import Derived.Test.YtmejbponpkkobaaPureMatch
namespace Go.Proofs.Ytmejbponpkkobaa.P
open Go.RowKit Go.Proofs.YtmejbponpkkobaaW.PrintWords Go.Proofs.YtmejbponpkkobaaW.PrintLast Go.Proofs.YtmejbponpkkobaaW.PrintMore

/-- The part of one character. -/
def lit (r : Int) : Pt := .cls [⟨r, r⟩] false
theorem lit_is (r x : Int) : (([⟨r, r⟩] : List S67).any (inSpan x) != false) = decide (x = r) := by
  simp only [List.any_cons, List.any_nil, Bool.or_false, inSpan]
  rw [Bool.eq_iff_iff]
  simp
  omega
theorem prt_plain (t : List Int) : ∀ l : List Int, l.any sign = false → prt (l ++ t) 0 = l.map lit ++ prt t 0
  | [], _ => rfl
  | r :: l, h => by
    rw [List.any_cons, Bool.or_eq_false_iff] at h
    have ih := prt_plain t l h.2
    have h1 := h.1
    unfold sign at h1
    simp only [Bool.or_eq_false_iff, decide_eq_false_iff_not] at h1
    rw [List.cons_append, prt, if_neg h1.1.1.1, if_neg h1.1.1.2, if_neg (fun e => h1.1.2 e.1), if_neg (fun e => h1.2 e.1), ih]
    rfl
theorem mats_lit (ps : List Pt) : ∀ (l c : List Int), mats (l.map lit ++ ps) c = true ↔ ∃ d, c = l ++ d ∧ mats ps d = true
  | [], c => by simp
  | r :: l, [] => by
    rw [List.map_cons, List.cons_append, lit, mats]
    simp
  | r :: l, x :: c => by
    rw [List.map_cons, List.cons_append, lit, mats, lit_is, Bool.and_eq_true, mats_lit ps l c]
    constructor
    · rintro ⟨h1, d, h2, h3⟩
      rw [decide_eq_true_eq] at h1
      exact ⟨d, by rw [h1, h2]; rfl, h3⟩
    · rintro ⟨d, h2, h3⟩
      rw [List.cons_append] at h2
      injection h2 with h4 h5
      exact ⟨by rw [h4]; simp, d, h5, h3⟩
theorem mats_nil (c : List Int) : mats [] c = true ↔ c = [] := by
  rw [mats]
  simp
theorem mats_all (c : List Int) : mats [Pt.many] c = true := by
  rw [mats_many]
  exact ⟨c.length, Nat.le_refl _, by simp [mats]⟩
theorem mats_just (l c : List Int) : mats (l.map lit) c = true ↔ c = l := by
  have h := mats_lit [] l c
  rw [List.append_nil] at h
  rw [h]
  constructor
  · rintro ⟨d, h1, h2⟩
    rw [mats_nil] at h2
    rw [h1, h2, List.append_nil]
  · intro h1
    exact ⟨[], by rw [h1, List.append_nil], by rw [mats_nil]⟩
theorem mats_head (l c : List Int) : mats (l.map lit ++ [Pt.many]) c = true ↔ ∃ d, c = l ++ d := by
  rw [mats_lit]
  constructor
  · rintro ⟨d, h, _⟩; exact ⟨d, h⟩
  · rintro ⟨d, h⟩; exact ⟨d, h, mats_all d⟩
theorem rL_star (l : List UInt8) : rL (42 :: l) = 42 :: rL l := by
  have : dec (42 :: l) = (42, 1) := by unfold dec; rw [if_pos (by show (42 : UInt8).toNat < 128; decide)]; rfl
  rw [rL_cons, this]
  rfl
theorem rL_end (l : List UInt8) : rL (l ++ [42]) = rL l ++ [42] := by
  rw [rL_append _ _ _ (Nat.le_refl _) (fun x t e => by cases e; decide)]
  rfl
theorem prt_star (l : List Int) : prt (42 :: l) 0 = Pt.many :: prt l 0 := by
  rw [prt, if_pos rfl]
theorem plain_runes {p : ByteArray} (h : p.data.toList.any signB = false) : (rL p.data.toList).any sign = false := by
  rw [any_runes _ _ (Nat.le_refl _)]
  exact h
theorem prt_just {l : List Int} (h : l.any sign = false) : prt l 0 = l.map lit := by
  have := prt_plain [] l h
  rw [List.append_nil] at this
  rw [this]
  simp [prt]
theorem prt_head {l : List Int} (h : l.any sign = false) : prt (l ++ [42]) 0 = l.map lit ++ [Pt.many] := by
  rw [prt_plain [42] l h, prt_star]
  simp [prt]
theorem match_just (p s : ByteArray) (hp : p.size ≤ 60) (hs : s.size ≤ 512) (h : p.data.toList.any signB = false) : glob_Match.f p s = some (decide (runes s = runes p), 0) := by
  rw [match_rL p s (by omega) hs, prt_just (plain_runes h)]
  congr 2
  rw [Bool.eq_iff_iff, mats_just, decide_eq_true_eq, runes_rL, runes_rL]
end Go.Proofs.Ytmejbponpkkobaa.P
