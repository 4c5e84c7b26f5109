/- What is quoted, as a pattern, is its characters. Conditions: each theorem names its own. -/
import Derived.Test.YtmejbponpkkobaaPH15
import Derived.Test.YtmejbponpkkobaaPurePlain
namespace Go.Proofs.Ytmejbponpkkobaa.P
open Go.RowKit Go.Proofs.YtmejbponpkkobaaW.PrintWords Go.Proofs.YtmejbponpkkobaaW.PrintLast Go.Proofs.YtmejbponpkkobaaW.PrintMore

def qr (r : Int) : List Int := if sign r then [92, r] else [r]
theorem qt_append (a b : List UInt8) : qt (a ++ b) = qt a ++ qt b := by unfold qt; rw [List.flatMap_append]
theorem qt_high : ∀ h : List UInt8, h.any signB = false → qt h = h
  | [], _ => rfl
  | x :: h, hh => by
    rw [List.any_cons, Bool.or_eq_false_iff] at hh
    have ih := qt_high h hh.2
    unfold qt at *
    rw [List.flatMap_cons, ih, qb, if_neg (by rw [hh.1]; simp)]
    rfl
theorem qr_high : ∀ h : List Int, h.any sign = false → h.flatMap qr = h
  | [], _ => rfl
  | x :: h, hh => by
    rw [List.any_cons, Bool.or_eq_false_iff] at hh
    rw [List.flatMap_cons, qr_high h hh.2, qr, if_neg (by rw [hh.1]; simp)]
    rfl
theorem rL_low (x : UInt8) (t : List UInt8) (h : x.toNat < 128) : rL (x :: t) = (x.toNat : Int) :: rL t := by
  have : dec (x :: t) = (x.toNat, 1) := by unfold dec; rw [if_pos (by exact h)]; rfl
  rw [rL_cons, this]
  rfl
theorem rL_qt : ∀ (n : Nat) (l : List UInt8), l.length ≤ n → rL (qt l) = (rL l).flatMap qr
  | _, [], _ => rfl
  | 0, _ :: _, h => by simp at h
  | n + 1, x :: t, h => by
    by_cases hx : x.toNat < 128
    · have ih := rL_qt n t (by simp at h; omega)
      have hq : qt (x :: t) = qb x ++ qt t := by unfold qt; rw [List.flatMap_cons]
      rw [hq, rL_low x t hx, List.flatMap_cons, ← ih]
      cases hs : signB x with
      | true =>
        have e1 : qb x = [92, x] := by unfold qb; rw [if_pos hs]
        have e2 : qr (x.toNat : Int) = [92, (x.toNat : Int)] := by unfold qr; rw [if_pos (by exact hs)]
        rw [e1, e2]
        show rL (92 :: x :: qt t) = 92 :: (x.toNat : Int) :: rL (qt t)
        rw [rL_low 92 _ (by decide), rL_low x _ hx]
        rfl
      | false =>
        have e1 : qb x = [x] := by unfold qb; rw [if_neg (by rw [hs]; simp)]
        have e2 : qr (x.toNat : Int) = [(x.toNat : Int)] := by unfold qr; rw [if_neg (by show ¬ signB x = true; rw [hs]; simp)]
        rw [e1, e2]
        show rL (x :: qt t) = (x.toNat : Int) :: rL (qt t)
        rw [rL_low x _ hx]
    · let f : UInt8 → Bool := fun y => decide (128 ≤ y.toNat)
      have hsplit : x :: t = (x :: t).takeWhile f ++ (x :: t).dropWhile f := (List.takeWhile_append_dropWhile).symm
      have hfx : f x = true := decide_eq_true (by omega)
      have hlen : ((x :: t).dropWhile f).length ≤ n := by
        have h1 := congrArg List.length hsplit
        rw [List.length_append, List.takeWhile_cons, hfx] at h1
        simp only [if_true, List.length_cons] at h1 h
        omega
      have hhigh : ((x :: t).takeWhile f).any signB = false := by
        rw [List.any_eq_false]
        intro y hy
        have h1 : f y = true := List.all_eq_true.1 (List.all_takeWhile (p := f)) y hy
        have h2 : 128 ≤ y.toNat := of_decide_eq_true h1
        unfold signB
        rw [sign_high _ (by omega)]
        simp
      have hb : ∀ y r, (x :: t).dropWhile f = y :: r → y.toNat < 128 := by
        intro y r e
        have h1 := List.head?_dropWhile_not f (x :: t)
        rw [e] at h1
        have h2 : f y = false := by simpa using h1
        have := of_decide_eq_false h2
        omega
      have hqb : ∀ y r, qt ((x :: t).dropWhile f) = y :: r → y.toNat < 128 := by
        intro y r e
        cases hd : (x :: t).dropWhile f with
        | nil => rw [hd] at e; cases e
        | cons z zs =>
          rw [hd] at e
          have hz := hb z zs hd
          unfold qt qb at e
          rw [List.flatMap_cons] at e
          cases hs : signB z with
          | true =>
            rw [hs] at e
            simp only [if_true, List.cons_append, List.cons.injEq] at e
            rw [← e.1]
            decide
          | false =>
            rw [hs] at e
            simp only [Bool.false_eq_true, if_false, List.cons_append, List.cons.injEq] at e
            rw [← e.1]
            exact hz
      have ih := rL_qt n _ hlen
      rw [hsplit, qt_append, qt_high _ hhigh, rL_append _ _ _ (Nat.le_refl _) hqb, rL_append _ _ _ (Nat.le_refl _) hb, ih, List.flatMap_append]
      congr 1
      rw [qr_high]
      rw [any_runes _ _ (Nat.le_refl _)]
      exact hhigh
theorem prt_quoted : ∀ l : List Int, prt (l.flatMap qr) 0 = l.map lit
  | [] => rfl
  | r :: l => by
    have ih := prt_quoted l
    rw [List.flatMap_cons, List.map_cons]
    cases hs : sign r with
    | true =>
      have e : qr r = [92, r] := by unfold qr; rw [if_pos hs]
      rw [e]
      show prt (92 :: r :: l.flatMap qr) 0 = _
      rw [prt, if_neg (by decide), if_neg (by decide), if_neg (fun h => absurd h.1 (by decide)), if_pos ⟨rfl, by simp⟩, prt, ih]
      rfl
    | false =>
      have e : qr r = [r] := by unfold qr; rw [if_neg (by rw [hs]; simp)]
      rw [e]
      show prt (r :: l.flatMap qr) 0 = _
      unfold sign at hs
      simp only [Bool.or_eq_false_iff, decide_eq_false_iff_not] at hs
      rw [prt, if_neg hs.1.1.1, if_neg hs.1.1.2, if_neg (fun e => hs.1.2 e.1), if_neg (fun e => hs.2 e.1), ih]
      rfl
theorem match_quoted (p s : ByteArray) (hp : p.size ≤ 30) (hs : s.size ≤ 512) : glob_Match.f ⟨(qt p.data.toList).toArray⟩ s = some (decide (runes s = runes p), 0) := by
  have h1 := qt_len p.data.toList
  have h2 : p.data.toList.length = p.size := rfl
  rw [match_rL _ s (by show (qt p.data.toList).length ≤ 64; omega) hs, show (⟨(qt p.data.toList).toArray⟩ : ByteArray).data.toList = qt p.data.toList from rfl, rL_qt _ _ (Nat.le_refl _), prt_quoted]
  congr 2
  rw [Bool.eq_iff_iff, mats_just, decide_eq_true_eq, runes_rL, runes_rL]
end Go.Proofs.Ytmejbponpkkobaa.P
