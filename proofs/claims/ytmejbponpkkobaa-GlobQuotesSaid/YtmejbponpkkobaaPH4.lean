/- Whether characters are what parts say: the machine's side, with the search told as steps. Conditions: each theorem names its own. -/
import Derived.Test.YtmejbponpkkobaaPH3
import Derived.StillTailTactics
import Derived.Deep.QuietTactic
import Derived.BigQuiet
namespace Go.Proofs.Ytmejbponpkkobaa.P
open Go.RowKit Go.Proofs.YtmejbponpkkobaaW.PrintWords Go.Proofs.YtmejbponpkkobaaW.PrintLast Go.Proofs.YtmejbponpkkobaaW.PrintMore

/-- The search: at part i, character k; st: the last star's place, and what it has taken up to. -/
def gm (ps : List Pt) (cs : List Int) : Nat → Nat → Nat → Option (Nat × Nat) → Option Bool
  | 0, _, _, _ => none
  | f + 1, i, k, st =>
    if k < cs.length then
      if i < ps.length then
        match ps.getD i .many with
        | .many => gm ps cs f (i + 1) k (some (i, k))
        | .cls l no =>
          if (l.any (inSpan (rd cs k)) != no) = true then gm ps cs f (i + 1) (k + 1) st
          else match st with
            | some (s, fr) => gm ps cs f (s + 1) (fr + 1) (some (s, fr + 1))
            | none => some false
      else match st with
        | some (s, fr) => gm ps cs f (s + 1) (fr + 1) (some (s, fr + 1))
        | none => some false
    else some (!(ps.drop i).any (fun x => !x.star))
def starV : Option (Nat × Nat) → Int
  | none => -1
  | some (s, _) => s
def fromV : Option (Nat × Nat) → Nat
  | none => 0
  | some (_, fr) => fr
theorem info51 : (Try.prog.info? 51).map (fun i => (i.zero, i.size, i.bytes)) = some (some .nilIface, 1, 16) := by kernel_rfl
/-- What the search keeps to. -/
structure Keeps (ps : List Pt) (cs : List Int) (i k : Nat) (st : Option (Nat × Nat)) : Prop where
  hi : i ≤ ps.length
  hk : k ≤ cs.length
  hs : ∀ s fr, st = some (s, fr) → s < ps.length ∧ fr ≤ k
set_option maxHeartbeats 8000000 in
set_option maxRecDepth 100000 in
theorem matches_calls (A : Option Addr) (c : Nat) (ps : List Pt) (B : Option Addr) (d : Nat) (cs : List Int) (f : Nat) (r : Bool) (w : World) (hp : Kd.C kP w A ps.length ps) (hpc : ps.length ≤ c) (hc : Kd.C (Kd.int .i32) w B cs.length cs) (hm : gm ps cs f 0 0 none = some r) :
    Calls Try.prog 18 #[.slice A ps.length c, .slice B cs.length d] w fun e w' => e = .returned (.bool r) ∧ Below w.heap.size w w' := by
  have HP := Aside0.mk hp
  have HC := Aside0.mk hc
  have HM := Aside0.mk hm
  have hmax := Kd.C_max hp
  have hmax2 := Kd.C_max hc
  clear hp hc hm
  have h1 := assert_many
  have h2 := assert_class
  go_enter Try.func18, Try.ntmps18
  go_wp2
  go_loopg [4, 5, 6, 7, 8] f (fun gg _ s5 s6 s7 s8 wr => ∃ (i k : Nat) (st : Option (Nat × Nat)), s5 = .int .i64 i ∧ s6 = .int .i64 k ∧ s7 = .int .i64 (starV st) ∧ s8 = .int .i64 (fromV st) ∧ Aside0 (Keeps ps cs i k st) ∧ Aside0 (gm ps cs gg i k st = some r) ∧ Aside0 (Below w.heap.size w wr))
  case atStart => exact ⟨0, 0, none, rfl, rfl, rfl, rfl, ⟨⟨by omega, by omega, by simp⟩⟩, HM, ⟨Below.refl _ w⟩⟩
  case round =>
    obtain ⟨i, k, st, rfl, rfl, rfl, rfl, KP, HG, BW⟩ := hrel
    have hi := KP.out.hi
    have hk := KP.out.hk
    cases gk with
    | zero => exact absurd HG.out (by simp [gm])
    | succ f1 =>
      have G := HG.out
      clear HG
      simp only [gm] at G
      by_cases hlt : k < cs.length
      · rw [if_pos hlt] at G
        have hltz : (k : Int) < (cs.length : Int) := by omega
        obtain ⟨bd, e2, hcc⟩ := Kd.at_int (Kd.C_below HC.out BW.out) (k : Int) (by omega) (by omega)
        subst e2
        simp only [Int.toNat_natCast] at hcc
        by_cases hil : i < ps.length
        · rw [if_pos hil] at G
          have hilz : (i : Int) < (ps.length : Int) := by omega
          obtain ⟨ad, v, e1, hc0, hK⟩ := at_P (Kd.C_below HP.out BW.out) i hil
          subst e1
          cases hq : ps.getD i .many with
          | many =>
            rw [hq] at G hK
            have G := Aside0.mk G
            obtain rfl : v = Value.iface 48 (.agg #[]) := hK
            go_wp2
            go_roundg f1
            case measure => omega
            case rel => exact ⟨i + 1, k, some (i, k), by go_num, rfl, rfl, rfl, ⟨⟨by omega, hk, fun s fr e => by cases e; exact ⟨hil, Nat.le_refl _⟩⟩⟩, G, BW⟩
          | cls l no =>
            rw [hq] at G hK
            obtain ⟨A1, c1, rfl, hl1, hC1⟩ := hK
            have HC1 := Aside0.mk hC1
            clear hC1
            cases hz : (l.any (inSpan (rd cs (k : Int))) != no) with
            | true =>
              simp only [hz, if_true] at G
              have G := Aside0.mk G
              go_wp2
              go_still_tail 15, (by kernel_rfl)
              change wpList _ _ _ _ _ wr.drew
              have BW2 := Aside0.mk (below_drew1 BW.out)
              have HC2 := Aside0.mk (Kd.C_drew HC1.out)
              clear BW HC1 hc0 hcc
              generalize wr.drew = w2 at BW2 HC2 ⊢
              go_wp2_with fail
              refine (class_is A1 c1 l no _ _ HC2.out).mono ?_
              rintro e w3 ⟨rfl, hb⟩
              rw [hz]
              go_wp2
              go_roundg f1
              case measure => omega
              case rel => exact ⟨i + 1, k + 1, st, by go_num, by go_num, rfl, rfl, ⟨⟨by omega, by omega, fun s fr e => by have := KP.out.hs s fr e; exact ⟨this.1, by omega⟩⟩⟩, G, ⟨BW2.out.trans (hb.mono BW2.out.size)⟩⟩
            | false =>
              cases st with
              | none =>
                simp only [hz, Bool.false_eq_true, if_false] at G
                have G := Aside0.mk G
                simp only [starV, fromV]
                go_wp2
                go_still_tail 15, (by kernel_rfl)
                change wpList _ _ _ _ _ wr.drew
                have BW2 := Aside0.mk (below_drew1 BW.out)
                have HC2 := Aside0.mk (Kd.C_drew HC1.out)
                clear BW HC1 hc0 hcc
                generalize wr.drew = w2 at BW2 HC2 ⊢
                go_wp2_with fail
                refine (class_is A1 c1 l no _ _ HC2.out).mono ?_
                rintro e w3 ⟨rfl, hb⟩
                rw [hz]
                go_wp2
                go_ret
                obtain rfl := Option.some.inj G.out
                exact ⟨rfl, BW2.out.trans (hb.mono BW2.out.size)⟩
              | some x =>
                obtain ⟨s, fr⟩ := x
                simp only [hz, Bool.false_eq_true, if_false] at G
                have G := Aside0.mk G
                have hsf := KP.out.hs s fr rfl
                simp only [starV, fromV]
                go_wp2
                go_still_tail 15, (by kernel_rfl)
                change wpList _ _ _ _ _ wr.drew
                have BW2 := Aside0.mk (below_drew1 BW.out)
                have HC2 := Aside0.mk (Kd.C_drew HC1.out)
                clear BW HC1 hc0 hcc
                generalize wr.drew = w2 at BW2 HC2 ⊢
                go_wp2_with fail
                refine (class_is A1 c1 l no _ _ HC2.out).mono ?_
                rintro e w3 ⟨rfl, hb⟩
                rw [hz]
                go_wp2
                go_roundg f1
                case measure => omega
                case rel => exact ⟨s + 1, fr + 1, some (s, fr + 1), by go_num, by go_num, rfl, by simp only [fromV]; go_num, ⟨⟨by omega, by omega, fun s1 fr1 e => by cases e; exact ⟨hsf.1, Nat.le_refl _⟩⟩⟩, G, ⟨BW2.out.trans (hb.mono BW2.out.size)⟩⟩
        · rw [if_neg hil] at G
          have hilz : ¬ (i : Int) < (ps.length : Int) := by omega
          cases st with
          | none =>
            have G := Aside0.mk G
            simp only [starV, fromV]
            have hild : decide ((i : Int) < (ps.length : Int)) = false := decide_eq_false hilz
            go_upto_region 10 with fail
            go_quiet (fail)
            go_wp2
            go_ret
            obtain rfl := Option.some.inj G.out
            exact ⟨rfl, pw_below_drewN BW.out _⟩
          | some x =>
            obtain ⟨s, fr⟩ := x
            simp only at G
            have G := Aside0.mk G
            have hsf := KP.out.hs s fr rfl
            simp only [starV, fromV]
            have hild : decide ((i : Int) < (ps.length : Int)) = false := decide_eq_false hilz
            go_upto_region 10 with fail
            go_quiet (fail)
            go_wp2
            go_roundg f1
            case measure => omega
            case rel => exact ⟨s + 1, fr + 1, some (s, fr + 1), by go_num, by go_num, rfl, by simp only [fromV]; go_num, ⟨⟨by omega, by omega, fun s1 fr1 e => by cases e; exact ⟨hsf.1, Nat.le_refl _⟩⟩⟩, G, ⟨pw_below_drewN BW.out _⟩⟩
      · rw [if_neg hlt] at G
        have hltz : ¬ (k : Int) < (cs.length : Int) := by omega
        obtain rfl := Option.some.inj G
        obtain ⟨ti, hti, _, hsz, _⟩ := info_parts info51
        have hcut := cut_from (P := Try.prog) 36 51 .i64 Try.underlying36 hti 1 hsz A ps.length c (i : Int) (by omega) (by omega)
        have hdr := Kd.C_drop (c := c) (Kd.C_below HP.out BW.out) hi hpc
        simp only [Int.toNat_natCast] at hcut
        rw [show ps.length - i = (ps.drop i).length from (List.length_drop).symm] at hcut
        have HD := Aside0.mk hdr
        clear hdr hti hsz
        obtain ⟨A9, hA9⟩ : ∃ A1, A1 = (if c = i then A else A.map (fun x => x.add (i * 1))) := ⟨_, rfl⟩
        have HD : Aside0 (Kd.C kP wr A9 (ps.drop i).length (ps.drop i)) := by rw [hA9]; exact HD
        rw [← hA9] at hcut
        have HA9 := Aside0.mk hA9
        clear hA9
        generalize hps : ps.drop i = qs at HD hcut ⊢
        go_wp2_with fail
        refine (parts_has _ _ _ _ HD.out).mono ?_
        rintro e w2 ⟨rfl, hb⟩
        go_wp2
        go_ret
        exact ⟨by rw [hps]; rfl, BW.out.trans (hb.mono BW.out.size)⟩
end Go.Proofs.Ytmejbponpkkobaa.P
