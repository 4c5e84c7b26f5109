/- What Match tells of texts whose bytes are known. Conditions: each theorem names its own. -/
import Derived.Test.YtmejbponpkkobaaPH8
import Derived.Test.YtmejbponpkkobaaPureRunes
namespace Go.Proofs.Ytmejbponpkkobaa.P
open Go.RowKit Go.Proofs.YtmejbponpkkobaaW.PrintWords Go.Proofs.YtmejbponpkkobaaW.PrintLast Go.Proofs.YtmejbponpkkobaaW.PrintMore

theorem match_rL (p s : ByteArray) (hp : p.size ≤ 64) (hs : s.size ≤ 512) : glob_Match.f p s = some (mats (prt (rL p.data.toList) 0) (rL s.data.toList), 0) := by
  unfold glob_Match.f
  rw [if_neg (by omega), runes_rL, runes_rL]
theorem match_list (p s : List UInt8) (hp : p.length ≤ 64) (hs : s.length ≤ 512) : glob_Match.f ⟨p.toArray⟩ ⟨s.toArray⟩ = some (mats (prt (rL p) 0) (rL s), 0) := by
  rw [match_rL _ _ (by exact hp) (by exact hs)]
theorem strOfNums_list (l : List Int) : strOfNums l = ⟨(l.map (fun x => UInt8.ofNat x.toNat)).toArray⟩ := by
  unfold strOfNums
  first | rfl | simp
theorem shown1 : glob_Match.f (⟨#[97, 42, 99]⟩ : ByteArray) (⟨#[97, 98, 98, 99]⟩ : ByteArray) = some (true, 0) := by
  rw [show (⟨#[97, 42, 99]⟩ : ByteArray) = ⟨([97, 42, 99] : List UInt8).toArray⟩ from rfl, show (⟨#[97, 98, 98, 99]⟩ : ByteArray) = ⟨([97, 98, 98, 99] : List UInt8).toArray⟩ from rfl, match_list _ _ (by decide) (by decide), rL_ascii _ (by decide), rL_ascii _ (by decide)]
  simp [prt, clo, idx, rd, mats, inSpan]
theorem shown2 : glob_Match.f (⟨#[91, 94, 97, 93]⟩ : ByteArray) (⟨#[97]⟩ : ByteArray) = some (false, 0) := by
  rw [show (⟨#[91, 94, 97, 93]⟩ : ByteArray) = ⟨([91, 94, 97, 93] : List UInt8).toArray⟩ from rfl, show (⟨#[97]⟩ : ByteArray) = ⟨([97] : List UInt8).toArray⟩ from rfl, match_list _ _ (by decide) (by decide), rL_ascii _ (by decide), rL_ascii _ (by decide)]
  simp [prt, clo, idx, rd, mats, inSpan, cla, wit]
theorem shown3 : glob_Match.f (⟨#[92, 42]⟩ : ByteArray) (⟨#[42]⟩ : ByteArray) = some (true, 0) := by
  rw [show (⟨#[92, 42]⟩ : ByteArray) = ⟨([92, 42] : List UInt8).toArray⟩ from rfl, show (⟨#[42]⟩ : ByteArray) = ⟨([42] : List UInt8).toArray⟩ from rfl, match_list _ _ (by decide) (by decide), rL_ascii _ (by decide), rL_ascii _ (by decide)]
  simp [prt, clo, idx, rd, mats, inSpan]
theorem shown4 : glob_Match.f (strOfNums (List.replicate 65 0)) (⟨#[]⟩ : ByteArray) = some (false, 20) := by
  unfold glob_Match.f
  rw [if_pos (.inl (by rw [strOfNums_list]; show 64 < (List.map _ (List.replicate 65 (0 : Int))).toArray.size; simp))]
end Go.Proofs.Ytmejbponpkkobaa.P
