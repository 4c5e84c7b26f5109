/- The words that flags have, and how the program goes through those of a list. Conditions: each theorem names its own. -/
import Derived.Test.YtndjbhibajjaoaaPH5
import Derived.Test.YtndjbhibajjaoaaPH2
import Derived.RangeFuncNested
import Derived.RangeFuncBound
import Derived.RangeFuncCalls
import Derived.RangeFuncLeaves
import Derived.Shelf.Abstract
import Derived.Shelf.RegionOpen
import Derived.OwnWalkIn
import Derived.TacticsInMore
import Derived.LoopNIn
import Derived.LoopIn
import Derived.WalkMore
import Derived.Laws.EntriesVeiled
import Derived.Deep.LoopGhost
import Derived.Deep.RegionHeld3
import Derived.Deep.DeepCutAuto
import Derived.StillTailTactics
import Derived.Deep.QuietTactic
import Derived.BigQuiet
namespace Go.Proofs.Ytndjbhibajjaoaa.P
open Go.RowKit Go.Shelf Go.Proofs.YtndjbhibajjaoaaW.PrintWords Go.Proofs.YtndjbhibajjaoaaW.PrintLast Go.Proofs.YtndjbhibajjaoaaW.PrintMore
attribute [local go_sem] Oper.semAt_some

/-- The words of the six flags. -/
def wd : Nat → ByteArray
  | 0 => ⟨#[78, 88]⟩
  | 1 => ⟨#[88, 88]⟩
  | 2 => ⟨#[71, 84]⟩
  | 3 => ⟨#[76, 84]⟩
  | 4 => ⟨#[67, 72]⟩
  | _ => ⟨#[73, 78, 67, 82]⟩
def wv (k : Nat) : Value := .agg #[.string (wd k), .func (.func (29 + k)) #[] #[]]
def wvs : Value := .agg #[.string ⟨#[78, 88]⟩, .func (.func 29) #[] #[], .string ⟨#[88, 88]⟩, .func (.func 30) #[] #[], .string ⟨#[71, 84]⟩, .func (.func 31) #[] #[], .string ⟨#[76, 84]⟩, .func (.func 32) #[] #[], .string ⟨#[67, 72]⟩, .func (.func 33) #[] #[], .string ⟨#[73, 78, 67, 82]⟩, .func (.func 34) #[] #[]]
set_option maxHeartbeats 1000000 in
theorem words_calls (w : World) : Calls Try.prog 25 #[] w fun e w' => e = .returned wvs ∧ Below w.heap.size w w' := by
  go_enter Try.func25, Try.ntmps25
  go_wp2
  refine bodyPost_ret (v := wvs) (by simp [results, Try.results25, go_sem, wvs]) rfl ⟨rfl, ?_⟩
  exact below_alloc (Below.refl _ _) _
def wl : Nat → List UInt8
  | 0 => [78, 88]
  | 1 => [88, 88]
  | 2 => [71, 84]
  | 3 => [76, 84]
  | 4 => [67, 72]
  | _ => [73, 78, 67, 82]
/-- Which of the words a text is, in capitals. -/
def kix (s : ByteArray) : Option (Fin 6) := (List.finRange 6).find? (fun k => decide (up s = wl k))
theorem kix_some (s : ByteArray) (k : Fin 6) (h : up s = wl k) (hn : ∀ i : Nat, i < k.val → up s ≠ wl i) : kix s = some k := by
  unfold kix
  rw [List.find?_eq_some_iff_append]
  refine ⟨decide_eq_true h, (List.finRange 6).take k.val, (List.finRange 6).drop (k.val + 1), ?_, ?_⟩
  · exact (by decide : ∀ k : Fin 6, List.finRange 6 = (List.finRange 6).take k.val ++ k :: (List.finRange 6).drop (k.val + 1)) k
  · intro a ha
    have : a.val < k.val := (by decide : ∀ k a : Fin 6, a ∈ (List.finRange 6).take k.val → a.val < k.val) k a ha
    simp only [Bool.not_eq_true', decide_eq_false_iff_not]
    exact hn a.val this
theorem kix_none (s : ByteArray) (hn : ∀ i : Nat, i < 6 → up s ≠ wl i) : kix s = none := by
  unfold kix
  rw [List.find?_eq_none]
  intro a _
  simp only [decide_eq_true_eq]
  exact hn a.val a.isLt
/-- The words that a list begins with. -/
def knw : List ByteArray → List (Fin 6)
  | [] => []
  | s :: r => match kix s with
    | some k => k :: knw r
    | none => []
theorem knw_cons {l : List ByteArray} {j : Nat} {s : ByteArray} (h : j < l.length) (hs : rdOf ByteArray.empty l (j : Int) = s) : knw (l.drop j) = match kix s with
    | some k => k :: knw (l.drop (j + 1))
    | none => [] := by
  have h2 : l.drop j = s :: l.drop (j + 1) := by
    rw [List.drop_eq_getElem_cons h]
    congr 1
    rw [← hs, rdOf, Int.toNat_natCast, List.getD_eq_getElem?_getD, List.getElem?_eq_getElem h]
    rfl
  rw [h2, knw]
theorem none_more {s : ByteArray} {k : Nat} (h : ∀ i, i < k → up s ≠ wl i) (hk : ¬ up s = wl k) (i : Nat) (hi : i < k + 1) : up s ≠ wl i := by
  have h2 : i < k ∨ i = k := by omega
  rcases h2 with h2 | rfl
  · exact h i h2
  · exact hk
theorem rd_mem {l : List ByteArray} {j : Nat} (h : j < l.length) : rdOf ByteArray.empty l (j : Int) ∈ l := by
  rw [rdOf, Int.toNat_natCast, List.getD_eq_getElem?_getD, List.getElem?_eq_getElem h]
  exact List.getElem_mem h
theorem wvs_at0 (W : World) : (Instr.index 50 (.agg #[.string ⟨#[78, 88]⟩, .func (.func 29) #[] #[], .string ⟨#[88, 88]⟩, .func (.func 30) #[] #[], .string ⟨#[71, 84]⟩, .func (.func 31) #[] #[], .string ⟨#[76, 84]⟩, .func (.func 32) #[] #[], .string ⟨#[67, 72]⟩, .func (.func 33) #[] #[], .string ⟨#[73, 78, 67, 82]⟩, .func (.func 34) #[] #[]]) (.int .i64 0)).run Try.prog W = .ok (.agg #[.string ⟨#[78, 88]⟩, .func (.func 29) #[] #[]]) W := by kernel_rfl
theorem wvs_at1 (W : World) : (Instr.index 50 (.agg #[.string ⟨#[78, 88]⟩, .func (.func 29) #[] #[], .string ⟨#[88, 88]⟩, .func (.func 30) #[] #[], .string ⟨#[71, 84]⟩, .func (.func 31) #[] #[], .string ⟨#[76, 84]⟩, .func (.func 32) #[] #[], .string ⟨#[67, 72]⟩, .func (.func 33) #[] #[], .string ⟨#[73, 78, 67, 82]⟩, .func (.func 34) #[] #[]]) (.int .i64 1)).run Try.prog W = .ok (.agg #[.string ⟨#[88, 88]⟩, .func (.func 30) #[] #[]]) W := by kernel_rfl
theorem wvs_at2 (W : World) : (Instr.index 50 (.agg #[.string ⟨#[78, 88]⟩, .func (.func 29) #[] #[], .string ⟨#[88, 88]⟩, .func (.func 30) #[] #[], .string ⟨#[71, 84]⟩, .func (.func 31) #[] #[], .string ⟨#[76, 84]⟩, .func (.func 32) #[] #[], .string ⟨#[67, 72]⟩, .func (.func 33) #[] #[], .string ⟨#[73, 78, 67, 82]⟩, .func (.func 34) #[] #[]]) (.int .i64 2)).run Try.prog W = .ok (.agg #[.string ⟨#[71, 84]⟩, .func (.func 31) #[] #[]]) W := by kernel_rfl
theorem wvs_at3 (W : World) : (Instr.index 50 (.agg #[.string ⟨#[78, 88]⟩, .func (.func 29) #[] #[], .string ⟨#[88, 88]⟩, .func (.func 30) #[] #[], .string ⟨#[71, 84]⟩, .func (.func 31) #[] #[], .string ⟨#[76, 84]⟩, .func (.func 32) #[] #[], .string ⟨#[67, 72]⟩, .func (.func 33) #[] #[], .string ⟨#[73, 78, 67, 82]⟩, .func (.func 34) #[] #[]]) (.int .i64 3)).run Try.prog W = .ok (.agg #[.string ⟨#[76, 84]⟩, .func (.func 32) #[] #[]]) W := by kernel_rfl
theorem wvs_at4 (W : World) : (Instr.index 50 (.agg #[.string ⟨#[78, 88]⟩, .func (.func 29) #[] #[], .string ⟨#[88, 88]⟩, .func (.func 30) #[] #[], .string ⟨#[71, 84]⟩, .func (.func 31) #[] #[], .string ⟨#[76, 84]⟩, .func (.func 32) #[] #[], .string ⟨#[67, 72]⟩, .func (.func 33) #[] #[], .string ⟨#[73, 78, 67, 82]⟩, .func (.func 34) #[] #[]]) (.int .i64 4)).run Try.prog W = .ok (.agg #[.string ⟨#[67, 72]⟩, .func (.func 33) #[] #[]]) W := by kernel_rfl
theorem wvs_at5 (W : World) : (Instr.index 50 (.agg #[.string ⟨#[78, 88]⟩, .func (.func 29) #[] #[], .string ⟨#[88, 88]⟩, .func (.func 30) #[] #[], .string ⟨#[71, 84]⟩, .func (.func 31) #[] #[], .string ⟨#[76, 84]⟩, .func (.func 32) #[] #[], .string ⟨#[67, 72]⟩, .func (.func 33) #[] #[], .string ⟨#[73, 78, 67, 82]⟩, .func (.func 34) #[] #[]]) (.int .i64 5)).run Try.prog W = .ok (.agg #[.string ⟨#[73, 78, 67, 82]⟩, .func (.func 34) #[] #[]]) W := by kernel_rfl
def wenc (k : Fin 6) : Array Value := #[wv k]
/-- What is kept ahead of the comparison: the word's two cells; whatever lay before. -/
def Kept6 (n B : Nat) (W0 W : World) (J : World → Prop) (w' : World) : Prop := B < w'.heap.size ∧ Below n W0 w' ∧ Below W.heap.size W w' ∧ J w' ∧ W.heap.size ≤ B + 1
theorem Kept6.drew {n B : Nat} {W0 W : World} {J : World → Prop} (hJ : ∀ W W', J W → Below W.heap.size W W' → J W') {w : World} (h : Kept6 n B W0 W J w) : Kept6 n B W0 W J w.drew := ⟨h.1, below_drew1 h.2.1, below_drew1 h.2.2.1, hJ _ _ h.2.2.2.1 (below_drew1 (Below.refl _ _)), h.2.2.2.2⟩
theorem upper_keep (s : ByteArray) (hs : s.size ≤ 1000) (n B : Nat) (v0 v1 : Value) (W0 W : World) (J : World → Prop) (hJ : ∀ W W', J W → Below W.heap.size W W' → J W') (w : World) (h0 : w.cell? ⟨B, 0, none⟩ = some v0) (h1 : w.cell? ⟨B, 1, none⟩ = some v1) (hk : Kept6 n B W0 W J w) (hn : n ≤ W.heap.size) :
    Calls Try.prog 28 #[.string s] w fun e w' => e = .returned (.string ⟨(up s).toArray⟩) ∧ w'.cell? ⟨B, 0, none⟩ = some v0 ∧ w'.cell? ⟨B, 1, none⟩ = some v1 ∧ Kept6 n B W0 W J w' := by
  refine (upper_calls s hs w).mono ?_
  rintro e w' ⟨rfl, hb⟩
  exact ⟨rfl, (hb.cell (p := ⟨B, 0, none⟩) hk.1).trans h0, (hb.cell (p := ⟨B, 1, none⟩) hk.1).trans h1, Nat.lt_of_lt_of_le hk.1 hb.size, hk.2.1.trans (hb.mono (Nat.le_trans hn hk.2.2.1.size)), hk.2.2.1.trans (hb.mono hk.2.2.1.size), hJ _ _ hk.2.2.2.1 hb, hk.2.2.2.2⟩
set_option maxHeartbeats 8000000 in
set_option maxRecDepth 100000 in
/-- known's closure, whatever is done with each word. -/
theorem known1 (l : List ByteArray) (hs : ∀ s ∈ l, s.size ≤ 1000) (A : Option Addr) (c : Nat) (w0 : World) (hC : Kd.C Kd.string w0 A l.length l) (hlen : l.length ≤ 1000) (Bs : Nat) (lp : Nat) (J Jx : List (Fin 6) → World → Prop)
    (hJ : ∀ s W W', J s W → Below W.heap.size W W' → J s W')
    (hY : ∀ pre x W, J pre W → pre.length < l.length → YieldAt Fence.wide 5 Try.prog lp (wenc x) W fun e W' =>
      (e = .returned (.bool true) ∧ J (pre ++ [x]) W' ∧ Below w0.heap.size W W') ∨ (e = .returned (.bool false) ∧ Jx (pre ++ [x]) W'))
    (W : World) (hb : Below w0.heap.size w0 W) (hBs : W.cell? ⟨Bs, 0, none⟩ = some (.slice A l.length c)) (h0 : J [] W) :
    Calls Try.prog 27 #[.func (.yield lp) #[] #[], .pointer (some ⟨Bs, 0, none⟩)] W fun e W' => (∃ v, e = .returned v) ∧
      ((∃ ys, ys = knw l ∧ J ys W') ∨ (∃ pre, pre <+: knw l ∧ Jx pre W')) := by
  have HC := Aside0.mk hC
  have HJ := Aside0.mk hJ
  have HS := Aside0.mk hs
  have HY := Aside0.mk hY
  have HB := Aside0.mk hb
  have H0 := Aside0.mk h0
  clear hC hJ hs hY hb h0
  go_enter Try.func27, Try.ntmps27
  go_wp2
  go_step3
  go_wp2
  go_step3
  go_wp2
  go_loopg [9] l.length (fun gg v9 wr => ∃ (j : Nat) (pre : List (Fin 6)), v9 = .int .i64 j ∧ j ≤ l.length ∧ l.length - j ≤ gg ∧ Aside0 (pre.length = j ∧ pre ++ knw (l.drop j) = knw l) ∧ Aside0 (J pre wr) ∧ Aside0 (Below w0.heap.size w0 wr))
  case atStart => exact ⟨0, [], rfl, Nat.zero_le _, by omega, ⟨rfl, rfl⟩, H0, HB⟩
  case round =>
    obtain ⟨j, pre, rfl, hj, hg, HP, HJp, HBw⟩ := hrel
    by_cases hlt : j < l.length
    · have hltz : (j : Int) < (l.length : Int) := by omega
      obtain ⟨ad, e, hx⟩ := Kd.at_string (Kd.C_below HC.out HBw.out) (j : Int) (by omega) hltz
      cases e
      rw [Int.toNat_natCast] at hx
      generalize hsx : rdOf ByteArray.empty l (j : Int) = s at hx
      have hsm : s ∈ l := hsx ▸ rd_mem hlt
      have hsz := HS.out s hsm
      have HSX := Aside0.mk hsx
      clear hsx hsm
      go_wp2_with fail
      refine (words_calls _).mono ?_
      rintro e w1 ⟨rfl, hb1⟩
      unfold wvs
      have HB1 := Aside0.mk (HBw.out.trans (hb1.mono HBw.out.size))
      have HJ1 := Aside0.mk (HJ.out _ _ _ HJp.out hb1)
      clear HBw HJp hb1
      go_wp2
      go_loopg [14] 6 (fun gg v14 wr => ∃ (k : Nat), v14 = .int .i64 k ∧ k ≤ 6 ∧ 6 - k ≤ gg ∧ Aside0 (∀ i, i < k → up s ≠ wl i) ∧ Aside0 (J pre wr) ∧ Aside0 (Below w0.heap.size w0 wr))
      case atStart => exact ⟨0, rfl, by omega, by omega, ⟨fun i hi => by omega⟩, HJ1, HB1⟩
      case round =>
        obtain ⟨k, rfl, hk, hg2, HN, HJk, HBk⟩ := hrel
        have hk7 : k = 0 ∨ k = 1 ∨ k = 2 ∨ k = 3 ∨ k = 4 ∨ k = 5 ∨ k = 6 := by omega
        rcases hk7 with rfl | rfl | rfl | rfl | rfl | rfl | rfl
        · have hix := wvs_at0
          have hsize : w0.heap.size ≤ wr.heap.size := HBk.out.size
          by_cases hq : up s = wl 0
          · have hqb : (up s == [78, 88]) = true := by rw [hq]; rfl
            have HQ := Aside0.mk hq
            clear hq
            go_upto_region 6 with fail
            have f0 : (wr.alloc (.cells #[.string ⟨#[78, 88]⟩, .func (.func 29) #[] #[]] 46)).cell? ⟨wr.heap.size, 0, none⟩ = some (.string ⟨#[78, 88]⟩) := by simp
            have f1 : (wr.alloc (.cells #[.string ⟨#[78, 88]⟩, .func (.func 29) #[] #[]] 46)).cell? ⟨wr.heap.size, 1, none⟩ = some (.func (.func 29) #[] #[]) := by simp
            have fk : Kept6 w0.heap.size wr.heap.size w0 wr (J pre) (wr.alloc (.cells #[.string ⟨#[78, 88]⟩, .func (.func 29) #[] #[]] 46)) := ⟨by simp, HBk.out.alloc (by simpa using hsize) _, below_alloc (Below.refl _ _) _, HJ.out _ _ _ HJk.out (below_alloc (Below.refl _ _) _), by omega⟩
            generalize hW6 : World.alloc wr _ = W6 at f0 f1 fk ⊢
            clear hW6
            have d0 : W6.drew.cell? ⟨wr.heap.size, 0, none⟩ = some (.string ⟨#[78, 88]⟩) := f0
            have d1 : W6.drew.cell? ⟨wr.heap.size, 1, none⟩ = some (.func (.func 29) #[] #[]) := f1
            have dk := fk.drew (HJ.out pre)
            go_region_held3 (fun w' => w'.cell? ⟨wr.heap.size, 0, none⟩ = some (.string ⟨#[78, 88]⟩) ∧ w'.cell? ⟨wr.heap.size, 1, none⟩ = some (.func (.func 29) #[] #[]) ∧ Kept6 w0.heap.size wr.heap.size w0 wr (J pre) w') (first | (refine ⟨?_, ?_, ?_⟩ <;> assumption)) (first | (go_at_call 28; refine (upper_keep s hsz w0.heap.size wr.heap.size _ _ w0 wr (J pre) (HJ.out pre) _ (by assumption) (by assumption) (by assumption) hsize).mono ?_; rintro e w' ⟨rfl, hk0, hk1, hk2⟩))
            try clear hHeld
            go_upto_region 7 with fail
            obtain ⟨fn, tmps, assign, body, hy, hR⟩ := HY.out pre ⟨0, by omega⟩ _ hk2.2.2.2.1 (by have := HP.out.1; omega)
            simp only [wenc, wv, wd] at hy
            have HRo := Aside0.mk hR
            clear hR
            refine (wpIn_wide (n := 6)).1 ?_
            gi_wp2
            refine HRo.out.mono ?_
            have hkn := knw_cons hlt HSX.out
            rw [kix_some s ⟨0, by omega⟩ HQ.out (fun i hi => HN.out i hi)] at hkn
            have HK := Aside0.mk hkn
            clear hkn
            rintro e W3 (⟨rfl, hJ3, hb3⟩ | ⟨rfl, hJx3⟩)
            · gi_wp2
              go_wp2
              go_roundg (l.length - (j + 1))
              case measure => omega
              case rel => exact ⟨j + 1, pre ++ [⟨0, by omega⟩], by go_num, by omega, by omega, ⟨by simp [HP.out.1], by have h := HP.out.2; rw [HK.out] at h; simpa using h⟩, ⟨hJ3⟩, ⟨hk2.2.1.trans hb3⟩⟩
            · gi_wp2
              go_wp2
              rw [Exit.noGoto_ret]
              refine bodyPost_ret (results_none rfl _ _ _) rfl ?_
              exact ⟨⟨_, rfl⟩, .inr ⟨pre ++ [⟨0, by omega⟩], ⟨knw (l.drop (j + 1)), by have h := HP.out.2; rw [HK.out] at h; simpa using h⟩, hJx3⟩⟩
          have hqb : (up s == [78, 88]) = false := beq_eq_false_iff_ne.mpr hq
          have HQ := Aside0.mk hq
          clear hq
          go_upto_region 6 with fail
          have f0 : (wr.alloc (.cells #[.string ⟨#[78, 88]⟩, .func (.func 29) #[] #[]] 46)).cell? ⟨wr.heap.size, 0, none⟩ = some (.string ⟨#[78, 88]⟩) := by simp
          have f1 : (wr.alloc (.cells #[.string ⟨#[78, 88]⟩, .func (.func 29) #[] #[]] 46)).cell? ⟨wr.heap.size, 1, none⟩ = some (.func (.func 29) #[] #[]) := by simp
          have fk : Kept6 w0.heap.size wr.heap.size w0 wr (J pre) (wr.alloc (.cells #[.string ⟨#[78, 88]⟩, .func (.func 29) #[] #[]] 46)) := ⟨by simp, HBk.out.alloc (by simpa using hsize) _, below_alloc (Below.refl _ _) _, HJ.out _ _ _ HJk.out (below_alloc (Below.refl _ _) _), by omega⟩
          generalize hW6 : World.alloc wr _ = W6 at f0 f1 fk ⊢
          clear hW6
          have d0 : W6.drew.cell? ⟨wr.heap.size, 0, none⟩ = some (.string ⟨#[78, 88]⟩) := f0
          have d1 : W6.drew.cell? ⟨wr.heap.size, 1, none⟩ = some (.func (.func 29) #[] #[]) := f1
          have dk := fk.drew (HJ.out pre)
          go_region_held3 (fun w' => w'.cell? ⟨wr.heap.size, 0, none⟩ = some (.string ⟨#[78, 88]⟩) ∧ w'.cell? ⟨wr.heap.size, 1, none⟩ = some (.func (.func 29) #[] #[]) ∧ Kept6 w0.heap.size wr.heap.size w0 wr (J pre) w') (first | (refine ⟨?_, ?_, ?_⟩ <;> assumption)) (first | (go_at_call 28; refine (upper_keep s hsz w0.heap.size wr.heap.size _ _ w0 wr (J pre) (HJ.out pre) _ (by assumption) (by assumption) (by assumption) hsize).mono ?_; rintro e w' ⟨rfl, hk0, hk1, hk2⟩))
          try clear hHeld
          go_wp2
          go_roundg (6 - 1)
          case measure => omega
          case rel => exact ⟨1, by go_num, by omega, by omega, ⟨none_more HN.out HQ.out⟩, ⟨hk2.2.2.2.1⟩, ⟨hk2.2.1⟩⟩
        · have hix := wvs_at1
          have hsize : w0.heap.size ≤ wr.heap.size := HBk.out.size
          by_cases hq : up s = wl 1
          · have hqb : (up s == [88, 88]) = true := by rw [hq]; rfl
            have HQ := Aside0.mk hq
            clear hq
            go_upto_region 6 with fail
            have f0 : (wr.alloc (.cells #[.string ⟨#[88, 88]⟩, .func (.func 30) #[] #[]] 46)).cell? ⟨wr.heap.size, 0, none⟩ = some (.string ⟨#[88, 88]⟩) := by simp
            have f1 : (wr.alloc (.cells #[.string ⟨#[88, 88]⟩, .func (.func 30) #[] #[]] 46)).cell? ⟨wr.heap.size, 1, none⟩ = some (.func (.func 30) #[] #[]) := by simp
            have fk : Kept6 w0.heap.size wr.heap.size w0 wr (J pre) (wr.alloc (.cells #[.string ⟨#[88, 88]⟩, .func (.func 30) #[] #[]] 46)) := ⟨by simp, HBk.out.alloc (by simpa using hsize) _, below_alloc (Below.refl _ _) _, HJ.out _ _ _ HJk.out (below_alloc (Below.refl _ _) _), by omega⟩
            generalize hW6 : World.alloc wr _ = W6 at f0 f1 fk ⊢
            clear hW6
            have d0 : W6.drew.cell? ⟨wr.heap.size, 0, none⟩ = some (.string ⟨#[88, 88]⟩) := f0
            have d1 : W6.drew.cell? ⟨wr.heap.size, 1, none⟩ = some (.func (.func 30) #[] #[]) := f1
            have dk := fk.drew (HJ.out pre)
            go_region_held3 (fun w' => w'.cell? ⟨wr.heap.size, 0, none⟩ = some (.string ⟨#[88, 88]⟩) ∧ w'.cell? ⟨wr.heap.size, 1, none⟩ = some (.func (.func 30) #[] #[]) ∧ Kept6 w0.heap.size wr.heap.size w0 wr (J pre) w') (first | (refine ⟨?_, ?_, ?_⟩ <;> assumption)) (first | (go_at_call 28; refine (upper_keep s hsz w0.heap.size wr.heap.size _ _ w0 wr (J pre) (HJ.out pre) _ (by assumption) (by assumption) (by assumption) hsize).mono ?_; rintro e w' ⟨rfl, hk0, hk1, hk2⟩))
            try clear hHeld
            go_upto_region 7 with fail
            obtain ⟨fn, tmps, assign, body, hy, hR⟩ := HY.out pre ⟨1, by omega⟩ _ hk2.2.2.2.1 (by have := HP.out.1; omega)
            simp only [wenc, wv, wd] at hy
            have HRo := Aside0.mk hR
            clear hR
            refine (wpIn_wide (n := 6)).1 ?_
            gi_wp2
            refine HRo.out.mono ?_
            have hkn := knw_cons hlt HSX.out
            rw [kix_some s ⟨1, by omega⟩ HQ.out (fun i hi => HN.out i hi)] at hkn
            have HK := Aside0.mk hkn
            clear hkn
            rintro e W3 (⟨rfl, hJ3, hb3⟩ | ⟨rfl, hJx3⟩)
            · gi_wp2
              go_wp2
              go_roundg (l.length - (j + 1))
              case measure => omega
              case rel => exact ⟨j + 1, pre ++ [⟨1, by omega⟩], by go_num, by omega, by omega, ⟨by simp [HP.out.1], by have h := HP.out.2; rw [HK.out] at h; simpa using h⟩, ⟨hJ3⟩, ⟨hk2.2.1.trans hb3⟩⟩
            · gi_wp2
              go_wp2
              rw [Exit.noGoto_ret]
              refine bodyPost_ret (results_none rfl _ _ _) rfl ?_
              exact ⟨⟨_, rfl⟩, .inr ⟨pre ++ [⟨1, by omega⟩], ⟨knw (l.drop (j + 1)), by have h := HP.out.2; rw [HK.out] at h; simpa using h⟩, hJx3⟩⟩
          have hqb : (up s == [88, 88]) = false := beq_eq_false_iff_ne.mpr hq
          have HQ := Aside0.mk hq
          clear hq
          go_upto_region 6 with fail
          have f0 : (wr.alloc (.cells #[.string ⟨#[88, 88]⟩, .func (.func 30) #[] #[]] 46)).cell? ⟨wr.heap.size, 0, none⟩ = some (.string ⟨#[88, 88]⟩) := by simp
          have f1 : (wr.alloc (.cells #[.string ⟨#[88, 88]⟩, .func (.func 30) #[] #[]] 46)).cell? ⟨wr.heap.size, 1, none⟩ = some (.func (.func 30) #[] #[]) := by simp
          have fk : Kept6 w0.heap.size wr.heap.size w0 wr (J pre) (wr.alloc (.cells #[.string ⟨#[88, 88]⟩, .func (.func 30) #[] #[]] 46)) := ⟨by simp, HBk.out.alloc (by simpa using hsize) _, below_alloc (Below.refl _ _) _, HJ.out _ _ _ HJk.out (below_alloc (Below.refl _ _) _), by omega⟩
          generalize hW6 : World.alloc wr _ = W6 at f0 f1 fk ⊢
          clear hW6
          have d0 : W6.drew.cell? ⟨wr.heap.size, 0, none⟩ = some (.string ⟨#[88, 88]⟩) := f0
          have d1 : W6.drew.cell? ⟨wr.heap.size, 1, none⟩ = some (.func (.func 30) #[] #[]) := f1
          have dk := fk.drew (HJ.out pre)
          go_region_held3 (fun w' => w'.cell? ⟨wr.heap.size, 0, none⟩ = some (.string ⟨#[88, 88]⟩) ∧ w'.cell? ⟨wr.heap.size, 1, none⟩ = some (.func (.func 30) #[] #[]) ∧ Kept6 w0.heap.size wr.heap.size w0 wr (J pre) w') (first | (refine ⟨?_, ?_, ?_⟩ <;> assumption)) (first | (go_at_call 28; refine (upper_keep s hsz w0.heap.size wr.heap.size _ _ w0 wr (J pre) (HJ.out pre) _ (by assumption) (by assumption) (by assumption) hsize).mono ?_; rintro e w' ⟨rfl, hk0, hk1, hk2⟩))
          try clear hHeld
          go_wp2
          go_roundg (6 - 2)
          case measure => omega
          case rel => exact ⟨2, by go_num, by omega, by omega, ⟨none_more HN.out HQ.out⟩, ⟨hk2.2.2.2.1⟩, ⟨hk2.2.1⟩⟩
        · have hix := wvs_at2
          have hsize : w0.heap.size ≤ wr.heap.size := HBk.out.size
          by_cases hq : up s = wl 2
          · have hqb : (up s == [71, 84]) = true := by rw [hq]; rfl
            have HQ := Aside0.mk hq
            clear hq
            go_upto_region 6 with fail
            have f0 : (wr.alloc (.cells #[.string ⟨#[71, 84]⟩, .func (.func 31) #[] #[]] 46)).cell? ⟨wr.heap.size, 0, none⟩ = some (.string ⟨#[71, 84]⟩) := by simp
            have f1 : (wr.alloc (.cells #[.string ⟨#[71, 84]⟩, .func (.func 31) #[] #[]] 46)).cell? ⟨wr.heap.size, 1, none⟩ = some (.func (.func 31) #[] #[]) := by simp
            have fk : Kept6 w0.heap.size wr.heap.size w0 wr (J pre) (wr.alloc (.cells #[.string ⟨#[71, 84]⟩, .func (.func 31) #[] #[]] 46)) := ⟨by simp, HBk.out.alloc (by simpa using hsize) _, below_alloc (Below.refl _ _) _, HJ.out _ _ _ HJk.out (below_alloc (Below.refl _ _) _), by omega⟩
            generalize hW6 : World.alloc wr _ = W6 at f0 f1 fk ⊢
            clear hW6
            have d0 : W6.drew.cell? ⟨wr.heap.size, 0, none⟩ = some (.string ⟨#[71, 84]⟩) := f0
            have d1 : W6.drew.cell? ⟨wr.heap.size, 1, none⟩ = some (.func (.func 31) #[] #[]) := f1
            have dk := fk.drew (HJ.out pre)
            go_region_held3 (fun w' => w'.cell? ⟨wr.heap.size, 0, none⟩ = some (.string ⟨#[71, 84]⟩) ∧ w'.cell? ⟨wr.heap.size, 1, none⟩ = some (.func (.func 31) #[] #[]) ∧ Kept6 w0.heap.size wr.heap.size w0 wr (J pre) w') (first | (refine ⟨?_, ?_, ?_⟩ <;> assumption)) (first | (go_at_call 28; refine (upper_keep s hsz w0.heap.size wr.heap.size _ _ w0 wr (J pre) (HJ.out pre) _ (by assumption) (by assumption) (by assumption) hsize).mono ?_; rintro e w' ⟨rfl, hk0, hk1, hk2⟩))
            try clear hHeld
            go_upto_region 7 with fail
            obtain ⟨fn, tmps, assign, body, hy, hR⟩ := HY.out pre ⟨2, by omega⟩ _ hk2.2.2.2.1 (by have := HP.out.1; omega)
            simp only [wenc, wv, wd] at hy
            have HRo := Aside0.mk hR
            clear hR
            refine (wpIn_wide (n := 6)).1 ?_
            gi_wp2
            refine HRo.out.mono ?_
            have hkn := knw_cons hlt HSX.out
            rw [kix_some s ⟨2, by omega⟩ HQ.out (fun i hi => HN.out i hi)] at hkn
            have HK := Aside0.mk hkn
            clear hkn
            rintro e W3 (⟨rfl, hJ3, hb3⟩ | ⟨rfl, hJx3⟩)
            · gi_wp2
              go_wp2
              go_roundg (l.length - (j + 1))
              case measure => omega
              case rel => exact ⟨j + 1, pre ++ [⟨2, by omega⟩], by go_num, by omega, by omega, ⟨by simp [HP.out.1], by have h := HP.out.2; rw [HK.out] at h; simpa using h⟩, ⟨hJ3⟩, ⟨hk2.2.1.trans hb3⟩⟩
            · gi_wp2
              go_wp2
              rw [Exit.noGoto_ret]
              refine bodyPost_ret (results_none rfl _ _ _) rfl ?_
              exact ⟨⟨_, rfl⟩, .inr ⟨pre ++ [⟨2, by omega⟩], ⟨knw (l.drop (j + 1)), by have h := HP.out.2; rw [HK.out] at h; simpa using h⟩, hJx3⟩⟩
          have hqb : (up s == [71, 84]) = false := beq_eq_false_iff_ne.mpr hq
          have HQ := Aside0.mk hq
          clear hq
          go_upto_region 6 with fail
          have f0 : (wr.alloc (.cells #[.string ⟨#[71, 84]⟩, .func (.func 31) #[] #[]] 46)).cell? ⟨wr.heap.size, 0, none⟩ = some (.string ⟨#[71, 84]⟩) := by simp
          have f1 : (wr.alloc (.cells #[.string ⟨#[71, 84]⟩, .func (.func 31) #[] #[]] 46)).cell? ⟨wr.heap.size, 1, none⟩ = some (.func (.func 31) #[] #[]) := by simp
          have fk : Kept6 w0.heap.size wr.heap.size w0 wr (J pre) (wr.alloc (.cells #[.string ⟨#[71, 84]⟩, .func (.func 31) #[] #[]] 46)) := ⟨by simp, HBk.out.alloc (by simpa using hsize) _, below_alloc (Below.refl _ _) _, HJ.out _ _ _ HJk.out (below_alloc (Below.refl _ _) _), by omega⟩
          generalize hW6 : World.alloc wr _ = W6 at f0 f1 fk ⊢
          clear hW6
          have d0 : W6.drew.cell? ⟨wr.heap.size, 0, none⟩ = some (.string ⟨#[71, 84]⟩) := f0
          have d1 : W6.drew.cell? ⟨wr.heap.size, 1, none⟩ = some (.func (.func 31) #[] #[]) := f1
          have dk := fk.drew (HJ.out pre)
          go_region_held3 (fun w' => w'.cell? ⟨wr.heap.size, 0, none⟩ = some (.string ⟨#[71, 84]⟩) ∧ w'.cell? ⟨wr.heap.size, 1, none⟩ = some (.func (.func 31) #[] #[]) ∧ Kept6 w0.heap.size wr.heap.size w0 wr (J pre) w') (first | (refine ⟨?_, ?_, ?_⟩ <;> assumption)) (first | (go_at_call 28; refine (upper_keep s hsz w0.heap.size wr.heap.size _ _ w0 wr (J pre) (HJ.out pre) _ (by assumption) (by assumption) (by assumption) hsize).mono ?_; rintro e w' ⟨rfl, hk0, hk1, hk2⟩))
          try clear hHeld
          go_wp2
          go_roundg (6 - 3)
          case measure => omega
          case rel => exact ⟨3, by go_num, by omega, by omega, ⟨none_more HN.out HQ.out⟩, ⟨hk2.2.2.2.1⟩, ⟨hk2.2.1⟩⟩
        · have hix := wvs_at3
          have hsize : w0.heap.size ≤ wr.heap.size := HBk.out.size
          by_cases hq : up s = wl 3
          · have hqb : (up s == [76, 84]) = true := by rw [hq]; rfl
            have HQ := Aside0.mk hq
            clear hq
            go_upto_region 6 with fail
            have f0 : (wr.alloc (.cells #[.string ⟨#[76, 84]⟩, .func (.func 32) #[] #[]] 46)).cell? ⟨wr.heap.size, 0, none⟩ = some (.string ⟨#[76, 84]⟩) := by simp
            have f1 : (wr.alloc (.cells #[.string ⟨#[76, 84]⟩, .func (.func 32) #[] #[]] 46)).cell? ⟨wr.heap.size, 1, none⟩ = some (.func (.func 32) #[] #[]) := by simp
            have fk : Kept6 w0.heap.size wr.heap.size w0 wr (J pre) (wr.alloc (.cells #[.string ⟨#[76, 84]⟩, .func (.func 32) #[] #[]] 46)) := ⟨by simp, HBk.out.alloc (by simpa using hsize) _, below_alloc (Below.refl _ _) _, HJ.out _ _ _ HJk.out (below_alloc (Below.refl _ _) _), by omega⟩
            generalize hW6 : World.alloc wr _ = W6 at f0 f1 fk ⊢
            clear hW6
            have d0 : W6.drew.cell? ⟨wr.heap.size, 0, none⟩ = some (.string ⟨#[76, 84]⟩) := f0
            have d1 : W6.drew.cell? ⟨wr.heap.size, 1, none⟩ = some (.func (.func 32) #[] #[]) := f1
            have dk := fk.drew (HJ.out pre)
            go_region_held3 (fun w' => w'.cell? ⟨wr.heap.size, 0, none⟩ = some (.string ⟨#[76, 84]⟩) ∧ w'.cell? ⟨wr.heap.size, 1, none⟩ = some (.func (.func 32) #[] #[]) ∧ Kept6 w0.heap.size wr.heap.size w0 wr (J pre) w') (first | (refine ⟨?_, ?_, ?_⟩ <;> assumption)) (first | (go_at_call 28; refine (upper_keep s hsz w0.heap.size wr.heap.size _ _ w0 wr (J pre) (HJ.out pre) _ (by assumption) (by assumption) (by assumption) hsize).mono ?_; rintro e w' ⟨rfl, hk0, hk1, hk2⟩))
            try clear hHeld
            go_upto_region 7 with fail
            obtain ⟨fn, tmps, assign, body, hy, hR⟩ := HY.out pre ⟨3, by omega⟩ _ hk2.2.2.2.1 (by have := HP.out.1; omega)
            simp only [wenc, wv, wd] at hy
            have HRo := Aside0.mk hR
            clear hR
            refine (wpIn_wide (n := 6)).1 ?_
            gi_wp2
            refine HRo.out.mono ?_
            have hkn := knw_cons hlt HSX.out
            rw [kix_some s ⟨3, by omega⟩ HQ.out (fun i hi => HN.out i hi)] at hkn
            have HK := Aside0.mk hkn
            clear hkn
            rintro e W3 (⟨rfl, hJ3, hb3⟩ | ⟨rfl, hJx3⟩)
            · gi_wp2
              go_wp2
              go_roundg (l.length - (j + 1))
              case measure => omega
              case rel => exact ⟨j + 1, pre ++ [⟨3, by omega⟩], by go_num, by omega, by omega, ⟨by simp [HP.out.1], by have h := HP.out.2; rw [HK.out] at h; simpa using h⟩, ⟨hJ3⟩, ⟨hk2.2.1.trans hb3⟩⟩
            · gi_wp2
              go_wp2
              rw [Exit.noGoto_ret]
              refine bodyPost_ret (results_none rfl _ _ _) rfl ?_
              exact ⟨⟨_, rfl⟩, .inr ⟨pre ++ [⟨3, by omega⟩], ⟨knw (l.drop (j + 1)), by have h := HP.out.2; rw [HK.out] at h; simpa using h⟩, hJx3⟩⟩
          have hqb : (up s == [76, 84]) = false := beq_eq_false_iff_ne.mpr hq
          have HQ := Aside0.mk hq
          clear hq
          go_upto_region 6 with fail
          have f0 : (wr.alloc (.cells #[.string ⟨#[76, 84]⟩, .func (.func 32) #[] #[]] 46)).cell? ⟨wr.heap.size, 0, none⟩ = some (.string ⟨#[76, 84]⟩) := by simp
          have f1 : (wr.alloc (.cells #[.string ⟨#[76, 84]⟩, .func (.func 32) #[] #[]] 46)).cell? ⟨wr.heap.size, 1, none⟩ = some (.func (.func 32) #[] #[]) := by simp
          have fk : Kept6 w0.heap.size wr.heap.size w0 wr (J pre) (wr.alloc (.cells #[.string ⟨#[76, 84]⟩, .func (.func 32) #[] #[]] 46)) := ⟨by simp, HBk.out.alloc (by simpa using hsize) _, below_alloc (Below.refl _ _) _, HJ.out _ _ _ HJk.out (below_alloc (Below.refl _ _) _), by omega⟩
          generalize hW6 : World.alloc wr _ = W6 at f0 f1 fk ⊢
          clear hW6
          have d0 : W6.drew.cell? ⟨wr.heap.size, 0, none⟩ = some (.string ⟨#[76, 84]⟩) := f0
          have d1 : W6.drew.cell? ⟨wr.heap.size, 1, none⟩ = some (.func (.func 32) #[] #[]) := f1
          have dk := fk.drew (HJ.out pre)
          go_region_held3 (fun w' => w'.cell? ⟨wr.heap.size, 0, none⟩ = some (.string ⟨#[76, 84]⟩) ∧ w'.cell? ⟨wr.heap.size, 1, none⟩ = some (.func (.func 32) #[] #[]) ∧ Kept6 w0.heap.size wr.heap.size w0 wr (J pre) w') (first | (refine ⟨?_, ?_, ?_⟩ <;> assumption)) (first | (go_at_call 28; refine (upper_keep s hsz w0.heap.size wr.heap.size _ _ w0 wr (J pre) (HJ.out pre) _ (by assumption) (by assumption) (by assumption) hsize).mono ?_; rintro e w' ⟨rfl, hk0, hk1, hk2⟩))
          try clear hHeld
          go_wp2
          go_roundg (6 - 4)
          case measure => omega
          case rel => exact ⟨4, by go_num, by omega, by omega, ⟨none_more HN.out HQ.out⟩, ⟨hk2.2.2.2.1⟩, ⟨hk2.2.1⟩⟩
        · have hix := wvs_at4
          have hsize : w0.heap.size ≤ wr.heap.size := HBk.out.size
          by_cases hq : up s = wl 4
          · have hqb : (up s == [67, 72]) = true := by rw [hq]; rfl
            have HQ := Aside0.mk hq
            clear hq
            go_upto_region 6 with fail
            have f0 : (wr.alloc (.cells #[.string ⟨#[67, 72]⟩, .func (.func 33) #[] #[]] 46)).cell? ⟨wr.heap.size, 0, none⟩ = some (.string ⟨#[67, 72]⟩) := by simp
            have f1 : (wr.alloc (.cells #[.string ⟨#[67, 72]⟩, .func (.func 33) #[] #[]] 46)).cell? ⟨wr.heap.size, 1, none⟩ = some (.func (.func 33) #[] #[]) := by simp
            have fk : Kept6 w0.heap.size wr.heap.size w0 wr (J pre) (wr.alloc (.cells #[.string ⟨#[67, 72]⟩, .func (.func 33) #[] #[]] 46)) := ⟨by simp, HBk.out.alloc (by simpa using hsize) _, below_alloc (Below.refl _ _) _, HJ.out _ _ _ HJk.out (below_alloc (Below.refl _ _) _), by omega⟩
            generalize hW6 : World.alloc wr _ = W6 at f0 f1 fk ⊢
            clear hW6
            have d0 : W6.drew.cell? ⟨wr.heap.size, 0, none⟩ = some (.string ⟨#[67, 72]⟩) := f0
            have d1 : W6.drew.cell? ⟨wr.heap.size, 1, none⟩ = some (.func (.func 33) #[] #[]) := f1
            have dk := fk.drew (HJ.out pre)
            go_region_held3 (fun w' => w'.cell? ⟨wr.heap.size, 0, none⟩ = some (.string ⟨#[67, 72]⟩) ∧ w'.cell? ⟨wr.heap.size, 1, none⟩ = some (.func (.func 33) #[] #[]) ∧ Kept6 w0.heap.size wr.heap.size w0 wr (J pre) w') (first | (refine ⟨?_, ?_, ?_⟩ <;> assumption)) (first | (go_at_call 28; refine (upper_keep s hsz w0.heap.size wr.heap.size _ _ w0 wr (J pre) (HJ.out pre) _ (by assumption) (by assumption) (by assumption) hsize).mono ?_; rintro e w' ⟨rfl, hk0, hk1, hk2⟩))
            try clear hHeld
            go_upto_region 7 with fail
            obtain ⟨fn, tmps, assign, body, hy, hR⟩ := HY.out pre ⟨4, by omega⟩ _ hk2.2.2.2.1 (by have := HP.out.1; omega)
            simp only [wenc, wv, wd] at hy
            have HRo := Aside0.mk hR
            clear hR
            refine (wpIn_wide (n := 6)).1 ?_
            gi_wp2
            refine HRo.out.mono ?_
            have hkn := knw_cons hlt HSX.out
            rw [kix_some s ⟨4, by omega⟩ HQ.out (fun i hi => HN.out i hi)] at hkn
            have HK := Aside0.mk hkn
            clear hkn
            rintro e W3 (⟨rfl, hJ3, hb3⟩ | ⟨rfl, hJx3⟩)
            · gi_wp2
              go_wp2
              go_roundg (l.length - (j + 1))
              case measure => omega
              case rel => exact ⟨j + 1, pre ++ [⟨4, by omega⟩], by go_num, by omega, by omega, ⟨by simp [HP.out.1], by have h := HP.out.2; rw [HK.out] at h; simpa using h⟩, ⟨hJ3⟩, ⟨hk2.2.1.trans hb3⟩⟩
            · gi_wp2
              go_wp2
              rw [Exit.noGoto_ret]
              refine bodyPost_ret (results_none rfl _ _ _) rfl ?_
              exact ⟨⟨_, rfl⟩, .inr ⟨pre ++ [⟨4, by omega⟩], ⟨knw (l.drop (j + 1)), by have h := HP.out.2; rw [HK.out] at h; simpa using h⟩, hJx3⟩⟩
          have hqb : (up s == [67, 72]) = false := beq_eq_false_iff_ne.mpr hq
          have HQ := Aside0.mk hq
          clear hq
          go_upto_region 6 with fail
          have f0 : (wr.alloc (.cells #[.string ⟨#[67, 72]⟩, .func (.func 33) #[] #[]] 46)).cell? ⟨wr.heap.size, 0, none⟩ = some (.string ⟨#[67, 72]⟩) := by simp
          have f1 : (wr.alloc (.cells #[.string ⟨#[67, 72]⟩, .func (.func 33) #[] #[]] 46)).cell? ⟨wr.heap.size, 1, none⟩ = some (.func (.func 33) #[] #[]) := by simp
          have fk : Kept6 w0.heap.size wr.heap.size w0 wr (J pre) (wr.alloc (.cells #[.string ⟨#[67, 72]⟩, .func (.func 33) #[] #[]] 46)) := ⟨by simp, HBk.out.alloc (by simpa using hsize) _, below_alloc (Below.refl _ _) _, HJ.out _ _ _ HJk.out (below_alloc (Below.refl _ _) _), by omega⟩
          generalize hW6 : World.alloc wr _ = W6 at f0 f1 fk ⊢
          clear hW6
          have d0 : W6.drew.cell? ⟨wr.heap.size, 0, none⟩ = some (.string ⟨#[67, 72]⟩) := f0
          have d1 : W6.drew.cell? ⟨wr.heap.size, 1, none⟩ = some (.func (.func 33) #[] #[]) := f1
          have dk := fk.drew (HJ.out pre)
          go_region_held3 (fun w' => w'.cell? ⟨wr.heap.size, 0, none⟩ = some (.string ⟨#[67, 72]⟩) ∧ w'.cell? ⟨wr.heap.size, 1, none⟩ = some (.func (.func 33) #[] #[]) ∧ Kept6 w0.heap.size wr.heap.size w0 wr (J pre) w') (first | (refine ⟨?_, ?_, ?_⟩ <;> assumption)) (first | (go_at_call 28; refine (upper_keep s hsz w0.heap.size wr.heap.size _ _ w0 wr (J pre) (HJ.out pre) _ (by assumption) (by assumption) (by assumption) hsize).mono ?_; rintro e w' ⟨rfl, hk0, hk1, hk2⟩))
          try clear hHeld
          go_wp2
          go_roundg (6 - 5)
          case measure => omega
          case rel => exact ⟨5, by go_num, by omega, by omega, ⟨none_more HN.out HQ.out⟩, ⟨hk2.2.2.2.1⟩, ⟨hk2.2.1⟩⟩
        · have hix := wvs_at5
          have hsize : w0.heap.size ≤ wr.heap.size := HBk.out.size
          by_cases hq : up s = wl 5
          · have hqb : (up s == [73, 78, 67, 82]) = true := by rw [hq]; rfl
            have HQ := Aside0.mk hq
            clear hq
            go_upto_region 6 with fail
            have f0 : (wr.alloc (.cells #[.string ⟨#[73, 78, 67, 82]⟩, .func (.func 34) #[] #[]] 46)).cell? ⟨wr.heap.size, 0, none⟩ = some (.string ⟨#[73, 78, 67, 82]⟩) := by simp
            have f1 : (wr.alloc (.cells #[.string ⟨#[73, 78, 67, 82]⟩, .func (.func 34) #[] #[]] 46)).cell? ⟨wr.heap.size, 1, none⟩ = some (.func (.func 34) #[] #[]) := by simp
            have fk : Kept6 w0.heap.size wr.heap.size w0 wr (J pre) (wr.alloc (.cells #[.string ⟨#[73, 78, 67, 82]⟩, .func (.func 34) #[] #[]] 46)) := ⟨by simp, HBk.out.alloc (by simpa using hsize) _, below_alloc (Below.refl _ _) _, HJ.out _ _ _ HJk.out (below_alloc (Below.refl _ _) _), by omega⟩
            generalize hW6 : World.alloc wr _ = W6 at f0 f1 fk ⊢
            clear hW6
            have d0 : W6.drew.cell? ⟨wr.heap.size, 0, none⟩ = some (.string ⟨#[73, 78, 67, 82]⟩) := f0
            have d1 : W6.drew.cell? ⟨wr.heap.size, 1, none⟩ = some (.func (.func 34) #[] #[]) := f1
            have dk := fk.drew (HJ.out pre)
            go_region_held3 (fun w' => w'.cell? ⟨wr.heap.size, 0, none⟩ = some (.string ⟨#[73, 78, 67, 82]⟩) ∧ w'.cell? ⟨wr.heap.size, 1, none⟩ = some (.func (.func 34) #[] #[]) ∧ Kept6 w0.heap.size wr.heap.size w0 wr (J pre) w') (first | (refine ⟨?_, ?_, ?_⟩ <;> assumption)) (first | (go_at_call 28; refine (upper_keep s hsz w0.heap.size wr.heap.size _ _ w0 wr (J pre) (HJ.out pre) _ (by assumption) (by assumption) (by assumption) hsize).mono ?_; rintro e w' ⟨rfl, hk0, hk1, hk2⟩))
            try clear hHeld
            go_upto_region 7 with fail
            obtain ⟨fn, tmps, assign, body, hy, hR⟩ := HY.out pre ⟨5, by omega⟩ _ hk2.2.2.2.1 (by have := HP.out.1; omega)
            simp only [wenc, wv, wd] at hy
            have HRo := Aside0.mk hR
            clear hR
            refine (wpIn_wide (n := 6)).1 ?_
            gi_wp2
            refine HRo.out.mono ?_
            have hkn := knw_cons hlt HSX.out
            rw [kix_some s ⟨5, by omega⟩ HQ.out (fun i hi => HN.out i hi)] at hkn
            have HK := Aside0.mk hkn
            clear hkn
            rintro e W3 (⟨rfl, hJ3, hb3⟩ | ⟨rfl, hJx3⟩)
            · gi_wp2
              go_wp2
              go_roundg (l.length - (j + 1))
              case measure => omega
              case rel => exact ⟨j + 1, pre ++ [⟨5, by omega⟩], by go_num, by omega, by omega, ⟨by simp [HP.out.1], by have h := HP.out.2; rw [HK.out] at h; simpa using h⟩, ⟨hJ3⟩, ⟨hk2.2.1.trans hb3⟩⟩
            · gi_wp2
              go_wp2
              rw [Exit.noGoto_ret]
              refine bodyPost_ret (results_none rfl _ _ _) rfl ?_
              exact ⟨⟨_, rfl⟩, .inr ⟨pre ++ [⟨5, by omega⟩], ⟨knw (l.drop (j + 1)), by have h := HP.out.2; rw [HK.out] at h; simpa using h⟩, hJx3⟩⟩
          have hqb : (up s == [73, 78, 67, 82]) = false := beq_eq_false_iff_ne.mpr hq
          have HQ := Aside0.mk hq
          clear hq
          go_upto_region 6 with fail
          have f0 : (wr.alloc (.cells #[.string ⟨#[73, 78, 67, 82]⟩, .func (.func 34) #[] #[]] 46)).cell? ⟨wr.heap.size, 0, none⟩ = some (.string ⟨#[73, 78, 67, 82]⟩) := by simp
          have f1 : (wr.alloc (.cells #[.string ⟨#[73, 78, 67, 82]⟩, .func (.func 34) #[] #[]] 46)).cell? ⟨wr.heap.size, 1, none⟩ = some (.func (.func 34) #[] #[]) := by simp
          have fk : Kept6 w0.heap.size wr.heap.size w0 wr (J pre) (wr.alloc (.cells #[.string ⟨#[73, 78, 67, 82]⟩, .func (.func 34) #[] #[]] 46)) := ⟨by simp, HBk.out.alloc (by simpa using hsize) _, below_alloc (Below.refl _ _) _, HJ.out _ _ _ HJk.out (below_alloc (Below.refl _ _) _), by omega⟩
          generalize hW6 : World.alloc wr _ = W6 at f0 f1 fk ⊢
          clear hW6
          have d0 : W6.drew.cell? ⟨wr.heap.size, 0, none⟩ = some (.string ⟨#[73, 78, 67, 82]⟩) := f0
          have d1 : W6.drew.cell? ⟨wr.heap.size, 1, none⟩ = some (.func (.func 34) #[] #[]) := f1
          have dk := fk.drew (HJ.out pre)
          go_region_held3 (fun w' => w'.cell? ⟨wr.heap.size, 0, none⟩ = some (.string ⟨#[73, 78, 67, 82]⟩) ∧ w'.cell? ⟨wr.heap.size, 1, none⟩ = some (.func (.func 34) #[] #[]) ∧ Kept6 w0.heap.size wr.heap.size w0 wr (J pre) w') (first | (refine ⟨?_, ?_, ?_⟩ <;> assumption)) (first | (go_at_call 28; refine (upper_keep s hsz w0.heap.size wr.heap.size _ _ w0 wr (J pre) (HJ.out pre) _ (by assumption) (by assumption) (by assumption) hsize).mono ?_; rintro e w' ⟨rfl, hk0, hk1, hk2⟩))
          try clear hHeld
          go_wp2
          go_roundg (6 - 6)
          case measure => omega
          case rel => exact ⟨6, by go_num, by omega, by omega, ⟨none_more HN.out HQ.out⟩, ⟨hk2.2.2.2.1⟩, ⟨hk2.2.1⟩⟩
        · go_wp2
          rw [Exit.noGoto_ret]
          refine bodyPost_ret (results_none rfl _ _ _) rfl ?_
          refine ⟨⟨_, rfl⟩, .inl ⟨pre, ?_, HJk.out⟩⟩
          have h1 := HP.out.2
          rw [knw_cons hlt HSX.out, kix_none s HN.out] at h1
          simpa using h1
    · have hj2 : l.drop j = [] := List.drop_of_length_le (by omega)
      have hjz : ¬ (j : Int) < (l.length : Int) := by omega
      have H2 := HP.out.2
      rw [hj2] at H2
      have HP2 := Aside0.mk H2
      clear hj2 H2
      go_wp2
      go_end0
      exact ⟨⟨_, rfl⟩, .inl ⟨pre, by simpa [knw] using HP2.out, HJp.out⟩⟩
end Go.Proofs.Ytndjbhibajjaoaa.P
