/- A star at either end of a pattern lets more match; two stars are one. Conditions: none. -/
import Derived.Test.YtmejbponpkkobaaPx5
import Derived.Test.YtmejbponpkkobaaPurePlain
namespace Go.Proofs.Ytmejbponpkkobaa.Pure
open Go.RowKit Go.Proofs.YtmejbponpkkobaaW.PrintWords Go.Proofs.YtmejbponpkkobaaW.PrintLast Go.Proofs.Ytmejbponpkkobaa.P Go.Proofs.YtmejbponpkkobaaW.PrintMore

theorem starShown : paliolaw02_shown.f = some true := by
  unfold paliolaw02_shown.f
  rw [shown1, shown2, shown3, shown4]
  rfl
theorem all1 (s : ByteArray) (hs : s.size ≤ 512) : glob_Match.f (⟨#[42]⟩ : ByteArray) s = some (true, 0) := by
  rw [match_rL _ s (by decide) hs, show (⟨#[42]⟩ : ByteArray).data.toList = [42] from rfl, rL_star, prt_star, show prt (rL []) 0 = [] from by simp [rL, rl, prt], mats_all]
theorem all2 (s : ByteArray) (hs : s.size ≤ 512) : glob_Match.f (⟨#[42, 42]⟩ : ByteArray) s = some (true, 0) := by
  rw [match_rL _ s (by decide) hs, show (⟨#[42, 42]⟩ : ByteArray).data.toList = [42, 42] from rfl, rL_star, rL_star, prt_star, prt_star, show prt (rL []) 0 = [] from by simp [rL, rl, prt]]
  have : mats [Pt.many, Pt.many] (rL s.data.toList) = true := by
    rw [mats_many]
    exact ⟨0, Nat.zero_le _, mats_all _⟩
  rw [this]
theorem sub_size (s : ByteArray) (n : Nat) : (s.extract 0 ((mn (s.size : Int) n) : Int).toNat).size ≤ n ∧ 0 ≤ mn (s.size : Int) n ∧ mn (s.size : Int) n ≤ (s.size : Int) := by
  rw [ByteArray.size_extract]
  have : ((mn (s.size : Int) n) : Int).toNat ≤ n ∧ 0 ≤ mn (s.size : Int) n ∧ mn (s.size : Int) n ≤ (s.size : Int) := by unfold mn; split <;> omega
  omega
theorem GlobStars : ∀ (a0 : ByteArray) (a1 : ByteArray) (a2 : ByteArray), a0.size ≤ 140737488351232 → a1.size ≤ 140737488351232 → a2.size ≤ 140737488351232 → paliolaw02_GlobStars.f a0 a1 a2 = some true := by
  intro a0 a1 a2 _ _ _
  obtain ⟨hp, p0, p1⟩ := sub_size a0 60
  obtain ⟨hs, s0, s1⟩ := sub_size a1 200
  obtain ⟨_, t0, t1⟩ := sub_size a2 200
  unfold paliolaw02_GlobStars.f
  rw [starShown, Option.bind_some]
  rw [if_pos (show 0 ≤ mn (a0.size : Int) 60 from p0), if_pos (show mn (a0.size : Int) 60 ≤ (a0.size : Int) from p1), if_pos (show 0 ≤ mn (a1.size : Int) 200 from s0), if_pos (show mn (a1.size : Int) 200 ≤ (a1.size : Int) from s1), if_pos (show 0 ≤ mn (a2.size : Int) 200 from t0), if_pos (show mn (a2.size : Int) 200 ≤ (a2.size : Int) from t1)]
  have hp' : (a0.extract 0 ((mn (a0.size : Int) 60) : Int).toNat).size ≤ 60 := hp
  have hs' : (a1.extract 0 ((mn (a1.size : Int) 200) : Int).toNat).size ≤ 200 := hs
  generalize a0.extract 0 ((mn (a0.size : Int) 60) : Int).toNat = p at hp' ⊢
  generalize a1.extract 0 ((mn (a1.size : Int) 200) : Int).toNat = s at hs' ⊢
  rw [all1 s (by omega), all2 s (by omega)]
  have hpl : glob_Plain.f p = some (!p.data.toList.any signB) := by unfold glob_Plain.f; rw [if_pos (by omega)]
  rw [hpl]
  simp only [Option.bind_some]
  cases hsg : p.data.toList.any signB with
  | true => rfl
  | false =>
    rw [if_pos (show (!false) = true from rfl)]
    have hr := plain_runes hsg
    have d1 : ((⟨#[42]⟩ : ByteArray) ++ p).data.toList = 42 :: p.data.toList := by rw [ByteArray.data_append]; simp
    have d2 : (p ++ (⟨#[42]⟩ : ByteArray)).data.toList = p.data.toList ++ [42] := by rw [ByteArray.data_append]; simp
    have d3 : ((⟨#[42]⟩ : ByteArray) ++ p ++ (⟨#[42]⟩ : ByteArray)).data.toList = 42 :: (p.data.toList ++ [42]) := by rw [ByteArray.data_append, ByteArray.data_append]; simp
    have z1 : ((⟨#[42]⟩ : ByteArray) ++ p).size = 1 + p.size := by rw [ByteArray.size_append]; rfl
    have z2 : (p ++ (⟨#[42]⟩ : ByteArray)).size = p.size + 1 := by rw [ByteArray.size_append]; rfl
    have z3 : ((⟨#[42]⟩ : ByteArray) ++ p ++ (⟨#[42]⟩ : ByteArray)).size = 1 + p.size + 1 := by rw [ByteArray.size_append, z1]; rfl
    rw [match_rL p s (by omega) (by omega), match_rL _ s (by omega) (by omega), match_rL _ s (by omega) (by omega), match_rL _ s (by omega) (by omega), match_rL _ p (by omega) (by omega)]
    rw [d1, d2, d3, rL_star, rL_end, rL_star, rL_end, prt_star, prt_star, prt_just hr, prt_head hr]
    generalize rL p.data.toList = L
    generalize rL s.data.toList = c
    have hin : mats (Pt.many :: (L.map lit ++ [Pt.many])) L = true := by
      rw [mats_many]
      exact ⟨0, Nat.zero_le _, (mats_head L _).2 ⟨[], by simp⟩⟩
    rw [Option.bind_some, if_pos (show 1 + p.size ≤ 9223372036854775807 by omega), Option.bind_some, if_pos (show p.size + 1 ≤ 9223372036854775807 by omega), Option.bind_some, if_pos (show ((⟨#[42]⟩ : ByteArray) ++ p).size + 1 ≤ 9223372036854775807 by omega), Option.bind_some, Option.bind_some]
    simp only [hin, if_true]
    cases ha : mats (L.map lit) c with
    | true =>
      have hc := (mats_just L c).1 ha
      subst hc
      have hb : mats (Pt.many :: c.map lit) c = true := by rw [mats_many]; exact ⟨0, Nat.zero_le _, (mats_just c _).2 rfl⟩
      have hcc : mats (c.map lit ++ [Pt.many]) c = true := (mats_head c c).2 ⟨[], by simp⟩
      simp only [hb, hcc, hin, if_true]
    | false =>
      simp only [Bool.false_eq_true, if_false]
      cases hb : mats (Pt.many :: L.map lit) c with
      | true =>
        rw [mats_many] at hb
        obtain ⟨j, h1, h2⟩ := hb
        have h3 := (mats_just L _).1 h2
        have : mats (Pt.many :: (L.map lit ++ [Pt.many])) c = true := by
          rw [mats_many]
          exact ⟨j, h1, (mats_head L _).2 ⟨[], by rw [h3]; simp⟩⟩
        simp only [this, if_true]
      | false =>
        simp only [Bool.false_eq_true, if_false]
        cases hcc : mats (L.map lit ++ [Pt.many]) c with
        | true =>
          have : mats (Pt.many :: (L.map lit ++ [Pt.many])) c = true := by
            rw [mats_many]
            exact ⟨0, Nat.zero_le _, hcc⟩
          simp only [this, if_true]
        | false => rfl
end Go.Proofs.Ytmejbponpkkobaa.Pure
