/- So many question marks, and what they say of a text. Conditions: none. -/
import Derived.Test.YtmejbponpkkobaaPx4
import Derived.Test.YtmejbponpkkobaaPureMatch
namespace Go.Proofs.Ytmejbponpkkobaa.P
open Go.RowKit Go.Proofs.YtmejbponpkkobaaW.PrintWords Go.Proofs.YtmejbponpkkobaaW.PrintLast Go.Proofs.YtmejbponpkkobaaW.PrintMore

theorem anyShown : paliolaw02_shown.f = some true := by
  unfold paliolaw02_shown.f
  rw [shown1, shown2, shown3, shown4]
  rfl
theorem prt_any (t : List Int) : ∀ n, prt (List.replicate n 63 ++ t) 0 = List.replicate n (Pt.cls [] true) ++ prt t 0
  | 0 => rfl
  | n + 1 => by
    rw [List.replicate_succ, List.replicate_succ, List.cons_append, List.cons_append, ← prt_any t n]
    simp [prt]
theorem mats_any (ps : List Pt) : ∀ (n : Nat) (c : List Int), mats (List.replicate n (Pt.cls [] true) ++ ps) c = (decide (n ≤ c.length) && mats ps (c.drop n))
  | 0, c => by simp
  | n + 1, [] => by rw [List.replicate_succ, List.cons_append, mats]; simp
  | n + 1, x :: c => by
    rw [List.replicate_succ, List.cons_append, mats, mats_any ps n c]
    simp
/-- So many question marks. -/
def marks (n : Nat) : ByteArray := ⟨(List.replicate n 63).toArray⟩
theorem marks_size (n : Nat) : (marks n).size = n := by unfold marks; show (List.replicate n (63 : UInt8)).toArray.size = n; simp
theorem marks_succ (n : Nat) : marks n ++ (⟨#[63]⟩ : ByteArray) = marks (n + 1) := by
  refine ByteArray.ext ?_
  rw [ByteArray.data_append]
  unfold marks
  apply Array.toList_inj.1
  simp [List.replicate_succ']
theorem marks_take (n m : Nat) (h : m ≤ n) : (marks n).extract 0 m = marks m := by
  refine ByteArray.ext ?_
  rw [ByteArray.data_extract]
  unfold marks
  simp [Nat.min_eq_left h]
theorem rL_marks (n : Nat) : rL (marks n).data.toList = List.replicate n 63 := by
  unfold marks
  rw [rL_ascii _ (fun x hx => by rw [List.eq_of_mem_replicate hx]; decide)]
  simp
theorem match_marks (n : Nat) (s : ByteArray) (hn : n ≤ 64) (hs : s.size ≤ 512) : glob_Match.f (marks n) s = some (((runes s).length : Int) == (n : Int), 0) := by
  rw [match_rL _ _ (by rw [marks_size]; exact hn) hs, rL_marks]
  have h1 := prt_any [] n
  rw [List.append_nil] at h1
  rw [h1, show prt [] 0 = [] from rfl, mats_any, ← runes_rL]
  congr 2
  rw [Bool.eq_iff_iff]
  simp [mats]
  omega
theorem mats_star (c : List Int) : mats [Pt.many] c = true := by
  rw [mats_many]
  exact ⟨c.length, Nat.le_refl _, by simp [mats]⟩
theorem match_star (n : Nat) (s : ByteArray) (hn : n ≤ 63) (hs : s.size ≤ 512) : glob_Match.f (marks n ++ (⟨#[42]⟩ : ByteArray)) s = some (decide (((runes s).length : Int) ≥ (n : Int)), 0) := by
  have hd : (marks n ++ (⟨#[42]⟩ : ByteArray)).data.toList = (marks n).data.toList ++ [42] := by rw [ByteArray.data_append]; simp
  have hz : (marks n ++ (⟨#[42]⟩ : ByteArray)).size = n + 1 := by rw [ByteArray.size_append, marks_size]; rfl
  rw [match_rL _ _ (by omega) hs, hd, rL_append _ _ _ (Nat.le_refl _) (fun x t e => by cases e; decide), rL_marks, rL_ascii [42] (by decide), prt_any]
  have : prt ([42].map (fun x : UInt8 => (x.toNat : Int))) 0 = [Pt.many] := by simp [prt]
  rw [this, mats_any, mats_star, ← runes_rL, Bool.and_true]
  congr 2
  rw [Bool.eq_iff_iff]
  simp
theorem cut_size (s : ByteArray) (n : Nat) : (s.extract 0 ((mn (s.size : Int) n) : Int).toNat).size ≤ n := by
  rw [ByteArray.size_extract]
  have : ((mn (s.size : Int) n) : Int).toNat ≤ n := by unfold mn; split <;> omega
  omega
end Go.Proofs.Ytmejbponpkkobaa.P
