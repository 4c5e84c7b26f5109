/- The statement SkipPlaces: what is at a place is sought at that place. Conditions: each theorem names its own. -/
import Derived.Test.YtnlbdmiflihghaaSKM
namespace Go.Proofs.Ytnlbdmiflihghaa.P
open Go.RowKit Go.Shelf Go.Proofs.YtnlbdmiflihghaaW.PrintWords Go.Proofs.YtnlbdmiflihghaaW.PrintLast Go.Proofs.YtnlbdmiflihghaaW.PrintMore Go.Proofs.Ytnlbdmiflihghaa.SK
attribute [local go_sem] Oper.semAt_some

theorem Own.out {m : Nat} {w w1 wf : World} {b : Nat} {F : List Nat} {p : Pl2} (h : Own m w1 wf b F p) (hb : Below w.heap.size w w1) (hm : w.heap.size ≤ m) : Below w.heap.size w wf := hb.trans (h.bl.mono hm)
def paliolaw10_SkipPlaces.f (_l0 : List S39) : Option Bool := some true
set_option maxHeartbeats 8000000 in
set_option maxRecDepth 100000 in
theorem paliolaw10_SkipPlaces.calls (A0 : Option Addr) (c0 : Nat) (l0 : List S39) (r : Bool) (w : World) (hr0 : Kd.C k39 w A0 l0.length l0) (_hc0 : l0.length ≤ c0) (h : paliolaw10_SkipPlaces.f l0 = some r) :
    Calls Try.prog 3 #[.slice A0 l0.length c0] w fun e w' => e = .returned (.bool r) ∧ Below w.heap.size w w' := by
  obtain rfl : r = true := by
    injection h with h
    exact h.symm
  clear h
  have HR := Aside0.mk hr0
  clear hr0
  go_enter Try.func3, Try.ntmps3
  go_wp2_with fail
  refine (shown_calls w).mono ?_
  rintro e w1 ⟨rfl, hb1⟩
  have hm := made_calls l0 A0 c0 w1 (Kd.C_below HR.out hb1)
  go_wp2_with fail
  refine hm.mono ?_
  rintro e w2 ⟨F, rfl, hO⟩
  have hm1 : w.heap.size ≤ w1.heap.size := hb1.size
  generalize w1.heap.size = b at hO hm1 hm
  have hpl : (madeP l0).1.length ≤ 120 := Nat.le_trans (madeN_len l0 _) (Nat.min_le_right _ _)
  generalize madeP l0 = p at hO hpl
  have HB1 := Aside0.mk hb1
  have HO := Aside0.mk hO
  clear hm hO hb1 HR
  go_wp2_with fail
  go_loopg [5] p.1.length (fun gk v5 wr => ∃ i : Nat, v5 = .int .i64 (i : Int) ∧ i ≤ p.1.length ∧ gk = p.1.length - i ∧ Aside0 (Own b w1 wr b F p))
  case atStart => exact ⟨0, rfl, Nat.zero_le _, rfl, HO⟩
  case round =>
    clear HO
    obtain ⟨i, rfl, hi, hgk, HO⟩ := hrel
    have hlen := ls_len HO.out.ls
    go_wp2_with fail
    refine hlen.mono ?_
    rintro e w4 ⟨rfl, rfl⟩
    clear hlen
    by_cases hin : i < p.1.length
    · have hiz : (i : Int) < (p.1.length : Int) := by omega
      have hat := ls_at HO.out.ls (i : Int)
      have hav : atP p (i : Int) = (p.1.getD i zE, true) := by
        unfold atP
        rw [if_pos (by omega)]
        rfl
      rw [hav] at hat
      have hsr := HO.out.ls.srt
      have hge : p.1.getD i zE = p.1[i] := by rw [List.getD_eq_getElem?_getD, List.getElem?_eq_getElem hin]; rfl
      have hrk : rank (p.1.getD i zE) p.1 = i := by rw [hge]; exact rank_self hsr i hin
      have his : isin (p.1.getD i zE) p.1 = true := isin_iff.mpr (by rw [hge]; exact List.getElem_mem hin)
      generalize p.1.getD i zE = ee at hat hrk his
      have HRK := Aside0.mk (And.intro hrk his)
      clear hge hav hrk his hsr
      go_wp2_with fail
      refine hat.mono ?_
      rintro e w5 ⟨rfl, hb5⟩
      have hO6 := (HO.out.below hb5).below (below_alloc (Below.refl _ _) (.cells #[.string ee.1, .int .i64 ee.2] 28))
      have hyb := ent_new w5 ee
      clear hat hb5 HO
      go_upto_region 7 with fail
      generalize World.alloc w5 _ = w6 at hO6 hyb ⊢
      have e0 := ent_0 hyb
      have e1 := ent_1 hyb
      have hsk := ls_seek hO6.ls ee
      rw [HRK.out.1, HRK.out.2] at hsk
      have HO6 := Aside0.mk hO6
      clear hO6 hyb
      go_wp2_with fail
      refine hsk.mono ?_
      rintro e w7 ⟨rfl, hb7⟩
      have HO7 := Aside0.mk (HO6.out.below hb7)
      clear hsk hb7 e0 e1 HO6
      go_wp2
      go_roundg (p.1.length - (i + 1))
      case measure => omega
      case rel => exact ⟨i + 1, congrArg (Value.int .i64) (by first | exact wrap_succ i (by omega) | omega), by omega, rfl, HO7⟩
    · have hiz : ¬ (i : Int) < (p.1.length : Int) := by omega
      have hat := ls_at HO.out.ls (-1)
      have hav : atP p (-1) = (zE, false) := by unfold atP; rw [if_neg (by omega)]
      rw [hav] at hat
      go_wp2_with fail
      refine hat.mono ?_
      rintro e w5 ⟨rfl, hb5⟩
      have hO6 := (HO.out.below hb5).below (below_alloc (Below.refl _ _) (.cells #[.string zE.1, .int .i64 zE.2] 28))
      clear hat hb5 HO hav
      go_upto_region 11 with fail
      generalize World.alloc w5 _ = w6 at hO6 ⊢
      have hlen := ls_len hO6.ls
      have hat := ls_at hO6.ls (p.1.length : Int)
      have hav : atP p (p.1.length : Int) = (zE, false) := by unfold atP; rw [if_neg (by omega)]
      rw [hav] at hat
      have HO6 := Aside0.mk hO6
      clear hO6 hav
      go_wp2_with fail
      refine hlen.mono ?_
      rintro e w7 ⟨rfl, rfl⟩
      go_wp2_with fail
      refine hat.mono ?_
      rintro e w8 ⟨rfl, hb8⟩
      have HO8 := Aside0.mk ((HO6.out.below hb8).below (below_alloc (Below.refl _ _) (.cells #[.string zE.1, .int .i64 zE.2] 28)))
      clear hat hlen hb8 HO6
      go_wp2
      go_ret
      exact ⟨rfl, HO8.out.out HB1.out hm1⟩
end Go.Proofs.Ytnlbdmiflihghaa.P
