/- The law GlobClasses in plain Lean. Conditions: none. -/
import Derived.Test.YtmejbponpkkobaaPx4
import Derived.Test.YtmejbponpkkobaaPureMatch
namespace Go.Proofs.Ytmejbponpkkobaa.Pure
open Go.RowKit Go.Proofs.YtmejbponpkkobaaW.PrintWords Go.Proofs.YtmejbponpkkobaaW.PrintLast Go.Proofs.Ytmejbponpkkobaa.P Go.Proofs.YtmejbponpkkobaaW.PrintMore

theorem shown : paliolaw02_shown.f = some true := by
  unfold paliolaw02_shown.f
  rw [shown1, shown2, shown3, shown4]
  rfl
theorem rL_nums (l : List Int) (h : ∀ x, x ∈ l → 0 ≤ x ∧ x < 128) : rL (l.map (fun x => UInt8.ofNat x.toNat)) = l := by
  rw [rL_ascii _ (fun y hy => by
    obtain ⟨x, hx, rfl⟩ := List.mem_map.1 hy
    have := h x hx
    rw [UInt8.toNat_ofNat']
    omega), List.map_map]
  conv => rhs; rw [← List.map_id l]
  refine List.map_congr_left (fun x hx => ?_)
  have := h x hx
  simp only [Function.comp, id]
  rw [UInt8.toNat_ofNat']
  omega
theorem match_nums (p s : List Int) (hp : p.length ≤ 64) (hs : s.length ≤ 512) (h1 : ∀ x, x ∈ p → 0 ≤ x ∧ x < 128) (h2 : ∀ x, x ∈ s → 0 ≤ x ∧ x < 128) : glob_Match.f (strOfNums p) (strOfNums s) = some (mats (prt p 0) s, 0) := by
  rw [strOfNums_list, strOfNums_list, match_list _ _ (by rw [List.length_map]; exact hp) (by rw [List.length_map]; exact hs), rL_nums p h1, rL_nums s h2]
theorem two (a b c : Int) (ha : 97 ≤ a ∧ a ≤ 122) (hb : 97 ≤ b ∧ b ≤ 122) (hc : 97 ≤ c ∧ c ≤ 122) : glob_Match.f (strOfNums [91, a, 45, b, 93]) (strOfNums [c]) = some (decide (mn a b ≤ c) && decide (c ≤ mx a b), 0) := by
  rw [match_nums _ _ (by simp) (by simp) (by simp; omega) (by simp; omega)]
  have e1 : ¬ (93 : Int) = b := by omega
  have e2 : ¬ a = 94 := by omega
  simp [prt, clo, idx, rd, mats, inSpan, cla, wit, e1, e2]
theorem nottwo (a b c : Int) (ha : 97 ≤ a ∧ a ≤ 122) (hb : 97 ≤ b ∧ b ≤ 122) (hc : 97 ≤ c ∧ c ≤ 122) : glob_Match.f (strOfNums [91, 94, a, 45, b, 93]) (strOfNums [c]) = some (!(decide (mn a b ≤ c) && decide (c ≤ mx a b)), 0) := by
  rw [match_nums _ _ (by simp) (by simp) (by simp; omega) (by simp; omega)]
  have e1 : ¬ (93 : Int) = b := by omega
  have e2 : ¬ a = 94 := by omega
  simp [prt, clo, idx, rd, mats, inSpan, cla, wit, e1]
theorem either (a b c : Int) (ha : 97 ≤ a ∧ a ≤ 122) (hb : 97 ≤ b ∧ b ≤ 122) (hc : 97 ≤ c ∧ c ≤ 122) : glob_Match.f (strOfNums [91, a, b, 93]) (strOfNums [c]) = some (decide (c = a) || decide (c = b), 0) := by
  rw [match_nums _ _ (by simp) (by simp) (by simp; omega) (by simp; omega)]
  have e1 : ¬ (93 : Int) = b := by omega
  have e2 : ¬ a = 94 := by omega
  have q1 : (decide (a ≤ c) && decide (c ≤ a)) = decide (c = a) := by rw [Bool.eq_iff_iff]; simp; omega
  have q2 : (decide (b ≤ c) && decide (c ≤ b)) = decide (c = b) := by rw [Bool.eq_iff_iff]; simp; omega
  simp [prt, clo, idx, rd, mats, inSpan, cla, wit, e1, e2, q1, q2]
theorem GlobClasses : ∀ (a0 : Int) (a1 : Int) (a2 : Int), (Lit.int .u8 a0).wf = true → (Lit.int .u8 a1).wf = true → (Lit.int .u8 a2).wf = true → ∃ k, paliolaw02_GlobClasses.f k a0 a1 a2 = some true := by
  intro a b c _ _ _
  refine ⟨1, ?_⟩
  unfold paliolaw02_GlobClasses.f
  rw [shown]
  show (if a < 97 then (paliolaw02_GlobClasses.j0 1 a b c true true) else (if b < 97 then (paliolaw02_GlobClasses.j0 1 a b c true true) else (if c < 97 then (paliolaw02_GlobClasses.j0 1 a b c true true) else (if a > 122 then (paliolaw02_GlobClasses.j0 1 a b c true true) else (if b > 122 then (paliolaw02_GlobClasses.j0 1 a b c true true) else (paliolaw02_GlobClasses.j0 1 a b c true (decide (c > 122)))))))) = some true
  have out : paliolaw02_GlobClasses.j0 1 a b c true true = some true := by rw [paliolaw02_GlobClasses.j0, if_pos rfl]
  by_cases h1 : a < 97
  · rw [if_pos h1, out]
  rw [if_neg h1]
  by_cases h2 : b < 97
  · rw [if_pos h2, out]
  rw [if_neg h2]
  by_cases h3 : c < 97
  · rw [if_pos h3, out]
  rw [if_neg h3]
  by_cases h4 : a > 122
  · rw [if_pos h4, out]
  rw [if_neg h4]
  by_cases h5 : b > 122
  · rw [if_pos h5, out]
  rw [if_neg h5]
  by_cases h6 : c > 122
  · rw [decide_eq_true h6, out]
  rw [decide_eq_false h6, paliolaw02_GlobClasses.j0, if_neg (by simp), two a b c ⟨by omega, by omega⟩ ⟨by omega, by omega⟩ ⟨by omega, by omega⟩, nottwo a b c ⟨by omega, by omega⟩ ⟨by omega, by omega⟩ ⟨by omega, by omega⟩, either a b c ⟨by omega, by omega⟩ ⟨by omega, by omega⟩ ⟨by omega, by omega⟩]
  simp only [Option.bind_some, if_true]
  have e10 : (c == b) = decide (c = b) := by rw [Bool.eq_iff_iff]; simp
  rw [e10]
  generalize decide (c = b) = B
  generalize decide (c ≤ mx a b) = N
  by_cases h7 : c ≥ mn a b
  · have e7 : decide (mn a b ≤ c) = true := decide_eq_true h7
    rw [if_pos h7, e7]
    by_cases h9 : c = a
    · rw [if_pos h9, decide_eq_true h9]
      cases N <;> cases B <;> rfl
    · rw [if_neg h9, decide_eq_false h9]
      cases N <;> cases B <;> rfl
  · have e7 : decide (mn a b ≤ c) = false := decide_eq_false h7
    rw [if_neg h7, e7]
    by_cases h9 : c = a
    · rw [if_pos h9, decide_eq_true h9]
      cases N <;> cases B <;> rfl
    · rw [if_neg h9, decide_eq_false h9]
      cases N <;> cases B <;> rfl
end Go.Proofs.Ytmejbponpkkobaa.Pure
