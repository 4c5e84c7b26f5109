/- flags.Read: the flags of the words that a list begins with. Conditions: that the list has at most a thousand words, of at most a thousand bytes. -/
import Derived.Test.YtegmbgjolnbgpaaDoorUP
import Derived.RangeFuncNested
import Derived.RangeFuncBound
import Derived.RangeFuncCalls
import Derived.RangeFuncLeaves
import Derived.Shelf.Abstract
import Derived.Shelf.RegionOpen
import Derived.OwnWalkIn
import Derived.TacticsInMore
import Derived.LoopNIn
import Derived.LoopIn
import Derived.WalkMore
import Derived.Laws.EntriesVeiled
import Derived.Deep.LoopGhost
import Derived.Deep.RegionHeld3
import Derived.Deep.DeepCutAuto
import Derived.StillTailTactics
import Derived.Deep.QuietTactic
import Derived.BigQuiet
namespace Go.Proofs.YtegmbgjolnbgpaaDoor.P
open Go.RowKit Go.Shelf Go.Proofs.YtegmbgjolnbgpaaDoorW.PrintWords Go.Proofs.YtegmbgjolnbgpaaDoorW.PrintLast Go.Proofs.YtegmbgjolnbgpaaDoorW.PrintMore

theorem anyOf3 (x y z : Bool) (b : Nat) (w : World) (h0 : w.cell? ⟨b, 0, none⟩ = some (.bool x)) (h1 : w.cell? ⟨b, 1, none⟩ = some (.bool y)) (h2 : w.cell? ⟨b, 2, none⟩ = some (.bool z)) :
    Calls Tryd.prog 75 #[.slice (some ⟨b, 0, none⟩) 3 3] w fun e w' => e = .returned (.bool (x || y || z)) ∧ w = w' := by
  cases x <;> cases y <;> cases z
  all_goals
    go_enter Tryd.func75, Tryd.ntmps75
    go_wp2
    refine wp_loop_rounds 4 ?_
    repeat (rw [rounds_succ]; go_wp2)
    go_ret
    exact ⟨rfl, rfl⟩

theorem anyOf3' (x y z d : Bool) (hd : (x || y || z) = d) (b : Nat) (w : World) (h0 : w.cell? ⟨b, 0, none⟩ = some (.bool x)) (h1 : w.cell? ⟨b, 1, none⟩ = some (.bool y)) (h2 : w.cell? ⟨b, 2, none⟩ = some (.bool z)) :
    Calls Tryd.prog 75 #[.slice (some ⟨b, 0, none⟩) 3 3] w fun e w' => e = .returned (.bool d) ∧ w = w' := hd ▸ anyOf3 x y z b w h0 h1 h2
set_option maxHeartbeats 4000000 in
set_option maxRecDepth 100000 in
theorem right_nx (x g l c i : Bool) (w : World) :
    Calls Tryd.prog 64 #[.agg #[.bool true, .bool x, .bool g, .bool l, .bool c, .bool i]] w fun e w' => e = .returned (.bool (!(x || g || l) && !(g && l))) ∧ Below w.heap.size w w' := by
  cases hx : (x || g || l) <;> cases g
  all_goals
    have HX := Lib.hid hx
    clear hx
    go_enter Tryd.func64, Tryd.ntmps64
    go_wp2_with fail
    refine (anyOf3' x _ l _ HX.out _ _ ?_ ?_ ?_).mono ?_
    · go_simp
    · go_simp
    · go_simp
    rintro e w' ⟨rfl, rfl⟩
    go_wp2
    go_ret
    exact ⟨rfl, by repeat (first | exact Below.refl _ _ | apply below_alloc | refine below_set ?_ (by omega))⟩
set_option maxHeartbeats 4000000 in
set_option maxRecDepth 100000 in
theorem right_no (x g l c i : Bool) (w : World) :
    Calls Tryd.prog 64 #[.agg #[.bool false, .bool x, .bool g, .bool l, .bool c, .bool i]] w fun e w' => e = .returned (.bool (!(g && l))) ∧ Below w.heap.size w w' := by
  cases g
  all_goals
    go_enter Tryd.func64, Tryd.ntmps64
    go_wp2
    all_goals
      go_ret
      exact ⟨rfl, by repeat (first | exact Below.refl _ _ | apply below_alloc | refine below_set ?_ (by omega))⟩

/-- What the program's own 'Right' answers: the conditions of a member's being added do not exclude each other. -/
def flags_Right.f (a0_0 a0_1 a0_2 a0_3 _a0_4 _a0_5 : Bool) : Option Bool := some (!(a0_0 && (a0_1 || a0_2 || a0_3)) && !(a0_2 && a0_3))
theorem flags_Right.calls (a0_0 : Bool) (a0_1 : Bool) (a0_2 : Bool) (a0_3 : Bool) (a0_4 : Bool) (a0_5 : Bool) (r : Bool) (w : World) (h : flags_Right.f a0_0 a0_1 a0_2 a0_3 a0_4 a0_5 = some r) :
    Calls Tryd.prog 64 #[.agg #[.bool a0_0, .bool a0_1, .bool a0_2, .bool a0_3, .bool a0_4, .bool a0_5]] w fun e w' => e = .returned (.bool r) ∧ Below w.heap.size w w' := by
  simp only [flags_Right.f, Option.some.injEq] at h
  subst h
  cases a0_0
  · simpa using right_no a0_1 a0_2 a0_3 a0_4 a0_5 w
  · simpa using right_nx a0_1 a0_2 a0_3 a0_4 a0_5 w
attribute [local go_sem] Oper.semAt_some

/-- The words of the six flags. -/
def wd : Nat → ByteArray
  | 0 => ⟨#[78, 88]⟩
  | 1 => ⟨#[88, 88]⟩
  | 2 => ⟨#[71, 84]⟩
  | 3 => ⟨#[76, 84]⟩
  | 4 => ⟨#[67, 72]⟩
  | _ => ⟨#[73, 78, 67, 82]⟩
def wv (k : Nat) : Value := .agg #[.string (wd k), .func (.func (76 + k)) #[] #[]]
def wvs : Value := .agg #[.string ⟨#[78, 88]⟩, .func (.func 76) #[] #[], .string ⟨#[88, 88]⟩, .func (.func 77) #[] #[], .string ⟨#[71, 84]⟩, .func (.func 78) #[] #[], .string ⟨#[76, 84]⟩, .func (.func 79) #[] #[], .string ⟨#[67, 72]⟩, .func (.func 80) #[] #[], .string ⟨#[73, 78, 67, 82]⟩, .func (.func 81) #[] #[]]
set_option maxHeartbeats 1000000 in
theorem words_calls (w : World) : Calls Tryd.prog 73 #[] w fun e w' => e = .returned wvs ∧ Below w.heap.size w w' := by
  go_enter Tryd.func73, Tryd.ntmps73
  go_wp2
  refine bodyPost_ret (v := wvs) (by simp [results, Tryd.results73, go_sem, wvs]) rfl ⟨rfl, ?_⟩
  exact below_alloc (Below.refl _ _) _
def wl : Nat → List UInt8
  | 0 => [78, 88]
  | 1 => [88, 88]
  | 2 => [71, 84]
  | 3 => [76, 84]
  | 4 => [67, 72]
  | _ => [73, 78, 67, 82]
/-- Which of the words a text is, in capitals. -/
def kix (s : ByteArray) : Option (Fin 6) := (List.finRange 6).find? (fun k => decide (up s = wl k))
theorem kix_some (s : ByteArray) (k : Fin 6) (h : up s = wl k) (hn : ∀ i : Nat, i < k.val → up s ≠ wl i) : kix s = some k := by
  unfold kix
  rw [List.find?_eq_some_iff_append]
  refine ⟨decide_eq_true h, (List.finRange 6).take k.val, (List.finRange 6).drop (k.val + 1), ?_, ?_⟩
  · exact (by decide : ∀ k : Fin 6, List.finRange 6 = (List.finRange 6).take k.val ++ k :: (List.finRange 6).drop (k.val + 1)) k
  · intro a ha
    have : a.val < k.val := (by decide : ∀ k a : Fin 6, a ∈ (List.finRange 6).take k.val → a.val < k.val) k a ha
    simp only [Bool.not_eq_true', decide_eq_false_iff_not]
    exact hn a.val this
theorem kix_none (s : ByteArray) (hn : ∀ i : Nat, i < 6 → up s ≠ wl i) : kix s = none := by
  unfold kix
  rw [List.find?_eq_none]
  intro a _
  simp only [decide_eq_true_eq]
  exact hn a.val a.isLt
/-- The words that a list begins with. -/
def knw : List ByteArray → List (Fin 6)
  | [] => []
  | s :: r => match kix s with
    | some k => k :: knw r
    | none => []
theorem knw_cons {l : List ByteArray} {j : Nat} {s : ByteArray} (h : j < l.length) (hs : rdOf ByteArray.empty l (j : Int) = s) : knw (l.drop j) = match kix s with
    | some k => k :: knw (l.drop (j + 1))
    | none => [] := by
  have h2 : l.drop j = s :: l.drop (j + 1) := by
    rw [List.drop_eq_getElem_cons h]
    congr 1
    rw [← hs, rdOf, Int.toNat_natCast, List.getD_eq_getElem?_getD, List.getElem?_eq_getElem h]
    rfl
  rw [h2, knw]
theorem none_more {s : ByteArray} {k : Nat} (h : ∀ i, i < k → up s ≠ wl i) (hk : ¬ up s = wl k) (i : Nat) (hi : i < k + 1) : up s ≠ wl i := by
  have h2 : i < k ∨ i = k := by omega
  rcases h2 with h2 | rfl
  · exact h i h2
  · exact hk
theorem rd_mem {l : List ByteArray} {j : Nat} (h : j < l.length) : rdOf ByteArray.empty l (j : Int) ∈ l := by
  rw [rdOf, Int.toNat_natCast, List.getD_eq_getElem?_getD, List.getElem?_eq_getElem h]
  exact List.getElem_mem h
theorem wvs_at0 (W : World) : (Instr.index 157 (.agg #[.string ⟨#[78, 88]⟩, .func (.func 76) #[] #[], .string ⟨#[88, 88]⟩, .func (.func 77) #[] #[], .string ⟨#[71, 84]⟩, .func (.func 78) #[] #[], .string ⟨#[76, 84]⟩, .func (.func 79) #[] #[], .string ⟨#[67, 72]⟩, .func (.func 80) #[] #[], .string ⟨#[73, 78, 67, 82]⟩, .func (.func 81) #[] #[]]) (.int .i64 0)).run Tryd.prog W = .ok (.agg #[.string ⟨#[78, 88]⟩, .func (.func 76) #[] #[]]) W := by kernel_rfl
theorem wvs_at1 (W : World) : (Instr.index 157 (.agg #[.string ⟨#[78, 88]⟩, .func (.func 76) #[] #[], .string ⟨#[88, 88]⟩, .func (.func 77) #[] #[], .string ⟨#[71, 84]⟩, .func (.func 78) #[] #[], .string ⟨#[76, 84]⟩, .func (.func 79) #[] #[], .string ⟨#[67, 72]⟩, .func (.func 80) #[] #[], .string ⟨#[73, 78, 67, 82]⟩, .func (.func 81) #[] #[]]) (.int .i64 1)).run Tryd.prog W = .ok (.agg #[.string ⟨#[88, 88]⟩, .func (.func 77) #[] #[]]) W := by kernel_rfl
theorem wvs_at2 (W : World) : (Instr.index 157 (.agg #[.string ⟨#[78, 88]⟩, .func (.func 76) #[] #[], .string ⟨#[88, 88]⟩, .func (.func 77) #[] #[], .string ⟨#[71, 84]⟩, .func (.func 78) #[] #[], .string ⟨#[76, 84]⟩, .func (.func 79) #[] #[], .string ⟨#[67, 72]⟩, .func (.func 80) #[] #[], .string ⟨#[73, 78, 67, 82]⟩, .func (.func 81) #[] #[]]) (.int .i64 2)).run Tryd.prog W = .ok (.agg #[.string ⟨#[71, 84]⟩, .func (.func 78) #[] #[]]) W := by kernel_rfl
theorem wvs_at3 (W : World) : (Instr.index 157 (.agg #[.string ⟨#[78, 88]⟩, .func (.func 76) #[] #[], .string ⟨#[88, 88]⟩, .func (.func 77) #[] #[], .string ⟨#[71, 84]⟩, .func (.func 78) #[] #[], .string ⟨#[76, 84]⟩, .func (.func 79) #[] #[], .string ⟨#[67, 72]⟩, .func (.func 80) #[] #[], .string ⟨#[73, 78, 67, 82]⟩, .func (.func 81) #[] #[]]) (.int .i64 3)).run Tryd.prog W = .ok (.agg #[.string ⟨#[76, 84]⟩, .func (.func 79) #[] #[]]) W := by kernel_rfl
theorem wvs_at4 (W : World) : (Instr.index 157 (.agg #[.string ⟨#[78, 88]⟩, .func (.func 76) #[] #[], .string ⟨#[88, 88]⟩, .func (.func 77) #[] #[], .string ⟨#[71, 84]⟩, .func (.func 78) #[] #[], .string ⟨#[76, 84]⟩, .func (.func 79) #[] #[], .string ⟨#[67, 72]⟩, .func (.func 80) #[] #[], .string ⟨#[73, 78, 67, 82]⟩, .func (.func 81) #[] #[]]) (.int .i64 4)).run Tryd.prog W = .ok (.agg #[.string ⟨#[67, 72]⟩, .func (.func 80) #[] #[]]) W := by kernel_rfl
theorem wvs_at5 (W : World) : (Instr.index 157 (.agg #[.string ⟨#[78, 88]⟩, .func (.func 76) #[] #[], .string ⟨#[88, 88]⟩, .func (.func 77) #[] #[], .string ⟨#[71, 84]⟩, .func (.func 78) #[] #[], .string ⟨#[76, 84]⟩, .func (.func 79) #[] #[], .string ⟨#[67, 72]⟩, .func (.func 80) #[] #[], .string ⟨#[73, 78, 67, 82]⟩, .func (.func 81) #[] #[]]) (.int .i64 5)).run Tryd.prog W = .ok (.agg #[.string ⟨#[73, 78, 67, 82]⟩, .func (.func 81) #[] #[]]) W := by kernel_rfl
def wenc (k : Fin 6) : Array Value := #[wv k]
/-- What is kept ahead of the comparison: the word's two cells; whatever lay before. -/
def Kept6 (n B : Nat) (W0 W : World) (J : World → Prop) (w' : World) : Prop := B < w'.heap.size ∧ Below n W0 w' ∧ Below W.heap.size W w' ∧ J w' ∧ W.heap.size ≤ B + 1
theorem Kept6.drew {n B : Nat} {W0 W : World} {J : World → Prop} (hJ : ∀ W W', J W → Below W.heap.size W W' → J W') {w : World} (h : Kept6 n B W0 W J w) : Kept6 n B W0 W J w.drew := ⟨h.1, below_drew1 h.2.1, below_drew1 h.2.2.1, hJ _ _ h.2.2.2.1 (below_drew1 (Below.refl _ _)), h.2.2.2.2⟩
theorem upper_keep (s : ByteArray) (hs : s.size ≤ 1000) (n B : Nat) (v0 v1 : Value) (W0 W : World) (J : World → Prop) (hJ : ∀ W W', J W → Below W.heap.size W W' → J W') (w : World) (h0 : w.cell? ⟨B, 0, none⟩ = some v0) (h1 : w.cell? ⟨B, 1, none⟩ = some v1) (hk : Kept6 n B W0 W J w) (hn : n ≤ W.heap.size) :
    Calls Tryd.prog 74 #[.string s] w fun e w' => e = .returned (.string ⟨(up s).toArray⟩) ∧ w'.cell? ⟨B, 0, none⟩ = some v0 ∧ w'.cell? ⟨B, 1, none⟩ = some v1 ∧ Kept6 n B W0 W J w' := by
  refine (fupper_calls s hs w).mono ?_
  rintro e w' ⟨rfl, hb⟩
  exact ⟨rfl, (hb.cell (p := ⟨B, 0, none⟩) hk.1).trans h0, (hb.cell (p := ⟨B, 1, none⟩) hk.1).trans h1, Nat.lt_of_lt_of_le hk.1 hb.size, hk.2.1.trans (hb.mono (Nat.le_trans hn hk.2.2.1.size)), hk.2.2.1.trans (hb.mono hk.2.2.1.size), hJ _ _ hk.2.2.2.1 hb, hk.2.2.2.2⟩
set_option maxHeartbeats 8000000 in
set_option maxRecDepth 100000 in
/-- known's closure, whatever is done with each word. -/
theorem known1 (l : List ByteArray) (hs : ∀ s ∈ l, s.size ≤ 1000) (A : Option Addr) (c : Nat) (w0 : World) (hC : Kd.C Kd.string w0 A l.length l) (hlen : l.length ≤ 1000) (Bs : Nat) (lp : Nat) (J Jx : List (Fin 6) → World → Prop)
    (hJ : ∀ s W W', J s W → Below W.heap.size W W' → J s W')
    (hY : ∀ pre x W, J pre W → pre.length < l.length → YieldAt Fence.wide 5 Tryd.prog lp (wenc x) W fun e W' =>
      (e = .returned (.bool true) ∧ J (pre ++ [x]) W' ∧ Below w0.heap.size W W') ∨ (e = .returned (.bool false) ∧ Jx (pre ++ [x]) W'))
    (W : World) (hb : Below w0.heap.size w0 W) (hBs : W.cell? ⟨Bs, 0, none⟩ = some (.slice A l.length c)) (h0 : J [] W) :
    Calls Tryd.prog 72 #[.func (.yield lp) #[] #[], .pointer (some ⟨Bs, 0, none⟩)] W fun e W' => (∃ v, e = .returned v) ∧
      ((∃ ys, ys = knw l ∧ J ys W') ∨ (∃ pre, pre <+: knw l ∧ Jx pre W')) := by
  have HC := Aside0.mk hC
  have HJ := Aside0.mk hJ
  have HS := Aside0.mk hs
  have HY := Aside0.mk hY
  have HB := Aside0.mk hb
  have H0 := Aside0.mk h0
  clear hC hJ hs hY hb h0
  go_enter Tryd.func72, Tryd.ntmps72
  go_wp2
  go_step3
  go_wp2
  go_step3
  go_wp2
  go_loopg [9] l.length (fun gg v9 wr => ∃ (j : Nat) (pre : List (Fin 6)), v9 = .int .i64 j ∧ j ≤ l.length ∧ l.length - j ≤ gg ∧ Aside0 (pre.length = j ∧ pre ++ knw (l.drop j) = knw l) ∧ Aside0 (J pre wr) ∧ Aside0 (Below w0.heap.size w0 wr))
  case atStart => exact ⟨0, [], rfl, Nat.zero_le _, by omega, ⟨rfl, rfl⟩, H0, HB⟩
  case round =>
    obtain ⟨j, pre, rfl, hj, hg, HP, HJp, HBw⟩ := hrel
    by_cases hlt : j < l.length
    · have hltz : (j : Int) < (l.length : Int) := by omega
      obtain ⟨ad, e, hx⟩ := Kd.at_string (Kd.C_below HC.out HBw.out) (j : Int) (by omega) hltz
      cases e
      rw [Int.toNat_natCast] at hx
      generalize hsx : rdOf ByteArray.empty l (j : Int) = s at hx
      have hsm : s ∈ l := hsx ▸ rd_mem hlt
      have hsz := HS.out s hsm
      have HSX := Aside0.mk hsx
      clear hsx hsm
      go_wp2_with fail
      refine (words_calls _).mono ?_
      rintro e w1 ⟨rfl, hb1⟩
      unfold wvs
      have HB1 := Aside0.mk (HBw.out.trans (hb1.mono HBw.out.size))
      have HJ1 := Aside0.mk (HJ.out _ _ _ HJp.out hb1)
      clear HBw HJp hb1
      go_wp2
      go_loopg [14] 6 (fun gg v14 wr => ∃ (k : Nat), v14 = .int .i64 k ∧ k ≤ 6 ∧ 6 - k ≤ gg ∧ Aside0 (∀ i, i < k → up s ≠ wl i) ∧ Aside0 (J pre wr) ∧ Aside0 (Below w0.heap.size w0 wr))
      case atStart => exact ⟨0, rfl, by omega, by omega, ⟨fun i hi => by omega⟩, HJ1, HB1⟩
      case round =>
        obtain ⟨k, rfl, hk, hg2, HN, HJk, HBk⟩ := hrel
        have hk7 : k = 0 ∨ k = 1 ∨ k = 2 ∨ k = 3 ∨ k = 4 ∨ k = 5 ∨ k = 6 := by omega
        rcases hk7 with rfl | rfl | rfl | rfl | rfl | rfl | rfl
        · have hix := wvs_at0
          have hsize : w0.heap.size ≤ wr.heap.size := HBk.out.size
          by_cases hq : up s = wl 0
          · have hqb : (up s == [78, 88]) = true := by rw [hq]; rfl
            have HQ := Aside0.mk hq
            clear hq
            go_upto_region 6 with fail
            have f0 : (wr.alloc (.cells #[.string ⟨#[78, 88]⟩, .func (.func 76) #[] #[]] 132)).cell? ⟨wr.heap.size, 0, none⟩ = some (.string ⟨#[78, 88]⟩) := by simp
            have f1 : (wr.alloc (.cells #[.string ⟨#[78, 88]⟩, .func (.func 76) #[] #[]] 132)).cell? ⟨wr.heap.size, 1, none⟩ = some (.func (.func 76) #[] #[]) := by simp
            have fk : Kept6 w0.heap.size wr.heap.size w0 wr (J pre) (wr.alloc (.cells #[.string ⟨#[78, 88]⟩, .func (.func 76) #[] #[]] 132)) := ⟨by simp, HBk.out.alloc (by simpa using hsize) _, below_alloc (Below.refl _ _) _, HJ.out _ _ _ HJk.out (below_alloc (Below.refl _ _) _), by omega⟩
            generalize hW6 : World.alloc wr _ = W6 at f0 f1 fk ⊢
            clear hW6
            have d0 : W6.drew.cell? ⟨wr.heap.size, 0, none⟩ = some (.string ⟨#[78, 88]⟩) := f0
            have d1 : W6.drew.cell? ⟨wr.heap.size, 1, none⟩ = some (.func (.func 76) #[] #[]) := f1
            have dk := fk.drew (HJ.out pre)
            go_region_held3 (fun w' => w'.cell? ⟨wr.heap.size, 0, none⟩ = some (.string ⟨#[78, 88]⟩) ∧ w'.cell? ⟨wr.heap.size, 1, none⟩ = some (.func (.func 76) #[] #[]) ∧ Kept6 w0.heap.size wr.heap.size w0 wr (J pre) w') (first | (refine ⟨?_, ?_, ?_⟩ <;> assumption)) (first | (go_at_call 74; refine (upper_keep s hsz w0.heap.size wr.heap.size _ _ w0 wr (J pre) (HJ.out pre) _ (by assumption) (by assumption) (by assumption) hsize).mono ?_; rintro e w' ⟨rfl, hk0, hk1, hk2⟩))
            try clear hHeld
            go_upto_region 7 with fail
            obtain ⟨fn, tmps, assign, body, hy, hR⟩ := HY.out pre ⟨0, by omega⟩ _ hk2.2.2.2.1 (by have := HP.out.1; omega)
            simp only [wenc, wv, wd] at hy
            have HRo := Aside0.mk hR
            clear hR
            refine (wpIn_wide (n := 6)).1 ?_
            gi_wp2
            refine HRo.out.mono ?_
            have hkn := knw_cons hlt HSX.out
            rw [kix_some s ⟨0, by omega⟩ HQ.out (fun i hi => HN.out i hi)] at hkn
            have HK := Aside0.mk hkn
            clear hkn
            rintro e W3 (⟨rfl, hJ3, hb3⟩ | ⟨rfl, hJx3⟩)
            · gi_wp2
              go_wp2
              go_roundg (l.length - (j + 1))
              case measure => omega
              case rel => exact ⟨j + 1, pre ++ [⟨0, by omega⟩], by go_num, by omega, by omega, ⟨by simp [HP.out.1], by have h := HP.out.2; rw [HK.out] at h; simpa using h⟩, ⟨hJ3⟩, ⟨hk2.2.1.trans hb3⟩⟩
            · gi_wp2
              go_wp2
              rw [Exit.noGoto_ret]
              refine bodyPost_ret (results_none rfl _ _ _) rfl ?_
              exact ⟨⟨_, rfl⟩, .inr ⟨pre ++ [⟨0, by omega⟩], ⟨knw (l.drop (j + 1)), by have h := HP.out.2; rw [HK.out] at h; simpa using h⟩, hJx3⟩⟩
          have hqb : (up s == [78, 88]) = false := beq_eq_false_iff_ne.mpr hq
          have HQ := Aside0.mk hq
          clear hq
          go_upto_region 6 with fail
          have f0 : (wr.alloc (.cells #[.string ⟨#[78, 88]⟩, .func (.func 76) #[] #[]] 132)).cell? ⟨wr.heap.size, 0, none⟩ = some (.string ⟨#[78, 88]⟩) := by simp
          have f1 : (wr.alloc (.cells #[.string ⟨#[78, 88]⟩, .func (.func 76) #[] #[]] 132)).cell? ⟨wr.heap.size, 1, none⟩ = some (.func (.func 76) #[] #[]) := by simp
          have fk : Kept6 w0.heap.size wr.heap.size w0 wr (J pre) (wr.alloc (.cells #[.string ⟨#[78, 88]⟩, .func (.func 76) #[] #[]] 132)) := ⟨by simp, HBk.out.alloc (by simpa using hsize) _, below_alloc (Below.refl _ _) _, HJ.out _ _ _ HJk.out (below_alloc (Below.refl _ _) _), by omega⟩
          generalize hW6 : World.alloc wr _ = W6 at f0 f1 fk ⊢
          clear hW6
          have d0 : W6.drew.cell? ⟨wr.heap.size, 0, none⟩ = some (.string ⟨#[78, 88]⟩) := f0
          have d1 : W6.drew.cell? ⟨wr.heap.size, 1, none⟩ = some (.func (.func 76) #[] #[]) := f1
          have dk := fk.drew (HJ.out pre)
          go_region_held3 (fun w' => w'.cell? ⟨wr.heap.size, 0, none⟩ = some (.string ⟨#[78, 88]⟩) ∧ w'.cell? ⟨wr.heap.size, 1, none⟩ = some (.func (.func 76) #[] #[]) ∧ Kept6 w0.heap.size wr.heap.size w0 wr (J pre) w') (first | (refine ⟨?_, ?_, ?_⟩ <;> assumption)) (first | (go_at_call 74; refine (upper_keep s hsz w0.heap.size wr.heap.size _ _ w0 wr (J pre) (HJ.out pre) _ (by assumption) (by assumption) (by assumption) hsize).mono ?_; rintro e w' ⟨rfl, hk0, hk1, hk2⟩))
          try clear hHeld
          go_wp2
          go_roundg (6 - 1)
          case measure => omega
          case rel => exact ⟨1, by go_num, by omega, by omega, ⟨none_more HN.out HQ.out⟩, ⟨hk2.2.2.2.1⟩, ⟨hk2.2.1⟩⟩
        · have hix := wvs_at1
          have hsize : w0.heap.size ≤ wr.heap.size := HBk.out.size
          by_cases hq : up s = wl 1
          · have hqb : (up s == [88, 88]) = true := by rw [hq]; rfl
            have HQ := Aside0.mk hq
            clear hq
            go_upto_region 6 with fail
            have f0 : (wr.alloc (.cells #[.string ⟨#[88, 88]⟩, .func (.func 77) #[] #[]] 132)).cell? ⟨wr.heap.size, 0, none⟩ = some (.string ⟨#[88, 88]⟩) := by simp
            have f1 : (wr.alloc (.cells #[.string ⟨#[88, 88]⟩, .func (.func 77) #[] #[]] 132)).cell? ⟨wr.heap.size, 1, none⟩ = some (.func (.func 77) #[] #[]) := by simp
            have fk : Kept6 w0.heap.size wr.heap.size w0 wr (J pre) (wr.alloc (.cells #[.string ⟨#[88, 88]⟩, .func (.func 77) #[] #[]] 132)) := ⟨by simp, HBk.out.alloc (by simpa using hsize) _, below_alloc (Below.refl _ _) _, HJ.out _ _ _ HJk.out (below_alloc (Below.refl _ _) _), by omega⟩
            generalize hW6 : World.alloc wr _ = W6 at f0 f1 fk ⊢
            clear hW6
            have d0 : W6.drew.cell? ⟨wr.heap.size, 0, none⟩ = some (.string ⟨#[88, 88]⟩) := f0
            have d1 : W6.drew.cell? ⟨wr.heap.size, 1, none⟩ = some (.func (.func 77) #[] #[]) := f1
            have dk := fk.drew (HJ.out pre)
            go_region_held3 (fun w' => w'.cell? ⟨wr.heap.size, 0, none⟩ = some (.string ⟨#[88, 88]⟩) ∧ w'.cell? ⟨wr.heap.size, 1, none⟩ = some (.func (.func 77) #[] #[]) ∧ Kept6 w0.heap.size wr.heap.size w0 wr (J pre) w') (first | (refine ⟨?_, ?_, ?_⟩ <;> assumption)) (first | (go_at_call 74; refine (upper_keep s hsz w0.heap.size wr.heap.size _ _ w0 wr (J pre) (HJ.out pre) _ (by assumption) (by assumption) (by assumption) hsize).mono ?_; rintro e w' ⟨rfl, hk0, hk1, hk2⟩))
            try clear hHeld
            go_upto_region 7 with fail
            obtain ⟨fn, tmps, assign, body, hy, hR⟩ := HY.out pre ⟨1, by omega⟩ _ hk2.2.2.2.1 (by have := HP.out.1; omega)
            simp only [wenc, wv, wd] at hy
            have HRo := Aside0.mk hR
            clear hR
            refine (wpIn_wide (n := 6)).1 ?_
            gi_wp2
            refine HRo.out.mono ?_
            have hkn := knw_cons hlt HSX.out
            rw [kix_some s ⟨1, by omega⟩ HQ.out (fun i hi => HN.out i hi)] at hkn
            have HK := Aside0.mk hkn
            clear hkn
            rintro e W3 (⟨rfl, hJ3, hb3⟩ | ⟨rfl, hJx3⟩)
            · gi_wp2
              go_wp2
              go_roundg (l.length - (j + 1))
              case measure => omega
              case rel => exact ⟨j + 1, pre ++ [⟨1, by omega⟩], by go_num, by omega, by omega, ⟨by simp [HP.out.1], by have h := HP.out.2; rw [HK.out] at h; simpa using h⟩, ⟨hJ3⟩, ⟨hk2.2.1.trans hb3⟩⟩
            · gi_wp2
              go_wp2
              rw [Exit.noGoto_ret]
              refine bodyPost_ret (results_none rfl _ _ _) rfl ?_
              exact ⟨⟨_, rfl⟩, .inr ⟨pre ++ [⟨1, by omega⟩], ⟨knw (l.drop (j + 1)), by have h := HP.out.2; rw [HK.out] at h; simpa using h⟩, hJx3⟩⟩
          have hqb : (up s == [88, 88]) = false := beq_eq_false_iff_ne.mpr hq
          have HQ := Aside0.mk hq
          clear hq
          go_upto_region 6 with fail
          have f0 : (wr.alloc (.cells #[.string ⟨#[88, 88]⟩, .func (.func 77) #[] #[]] 132)).cell? ⟨wr.heap.size, 0, none⟩ = some (.string ⟨#[88, 88]⟩) := by simp
          have f1 : (wr.alloc (.cells #[.string ⟨#[88, 88]⟩, .func (.func 77) #[] #[]] 132)).cell? ⟨wr.heap.size, 1, none⟩ = some (.func (.func 77) #[] #[]) := by simp
          have fk : Kept6 w0.heap.size wr.heap.size w0 wr (J pre) (wr.alloc (.cells #[.string ⟨#[88, 88]⟩, .func (.func 77) #[] #[]] 132)) := ⟨by simp, HBk.out.alloc (by simpa using hsize) _, below_alloc (Below.refl _ _) _, HJ.out _ _ _ HJk.out (below_alloc (Below.refl _ _) _), by omega⟩
          generalize hW6 : World.alloc wr _ = W6 at f0 f1 fk ⊢
          clear hW6
          have d0 : W6.drew.cell? ⟨wr.heap.size, 0, none⟩ = some (.string ⟨#[88, 88]⟩) := f0
          have d1 : W6.drew.cell? ⟨wr.heap.size, 1, none⟩ = some (.func (.func 77) #[] #[]) := f1
          have dk := fk.drew (HJ.out pre)
          go_region_held3 (fun w' => w'.cell? ⟨wr.heap.size, 0, none⟩ = some (.string ⟨#[88, 88]⟩) ∧ w'.cell? ⟨wr.heap.size, 1, none⟩ = some (.func (.func 77) #[] #[]) ∧ Kept6 w0.heap.size wr.heap.size w0 wr (J pre) w') (first | (refine ⟨?_, ?_, ?_⟩ <;> assumption)) (first | (go_at_call 74; refine (upper_keep s hsz w0.heap.size wr.heap.size _ _ w0 wr (J pre) (HJ.out pre) _ (by assumption) (by assumption) (by assumption) hsize).mono ?_; rintro e w' ⟨rfl, hk0, hk1, hk2⟩))
          try clear hHeld
          go_wp2
          go_roundg (6 - 2)
          case measure => omega
          case rel => exact ⟨2, by go_num, by omega, by omega, ⟨none_more HN.out HQ.out⟩, ⟨hk2.2.2.2.1⟩, ⟨hk2.2.1⟩⟩
        · have hix := wvs_at2
          have hsize : w0.heap.size ≤ wr.heap.size := HBk.out.size
          by_cases hq : up s = wl 2
          · have hqb : (up s == [71, 84]) = true := by rw [hq]; rfl
            have HQ := Aside0.mk hq
            clear hq
            go_upto_region 6 with fail
            have f0 : (wr.alloc (.cells #[.string ⟨#[71, 84]⟩, .func (.func 78) #[] #[]] 132)).cell? ⟨wr.heap.size, 0, none⟩ = some (.string ⟨#[71, 84]⟩) := by simp
            have f1 : (wr.alloc (.cells #[.string ⟨#[71, 84]⟩, .func (.func 78) #[] #[]] 132)).cell? ⟨wr.heap.size, 1, none⟩ = some (.func (.func 78) #[] #[]) := by simp
            have fk : Kept6 w0.heap.size wr.heap.size w0 wr (J pre) (wr.alloc (.cells #[.string ⟨#[71, 84]⟩, .func (.func 78) #[] #[]] 132)) := ⟨by simp, HBk.out.alloc (by simpa using hsize) _, below_alloc (Below.refl _ _) _, HJ.out _ _ _ HJk.out (below_alloc (Below.refl _ _) _), by omega⟩
            generalize hW6 : World.alloc wr _ = W6 at f0 f1 fk ⊢
            clear hW6
            have d0 : W6.drew.cell? ⟨wr.heap.size, 0, none⟩ = some (.string ⟨#[71, 84]⟩) := f0
            have d1 : W6.drew.cell? ⟨wr.heap.size, 1, none⟩ = some (.func (.func 78) #[] #[]) := f1
            have dk := fk.drew (HJ.out pre)
            go_region_held3 (fun w' => w'.cell? ⟨wr.heap.size, 0, none⟩ = some (.string ⟨#[71, 84]⟩) ∧ w'.cell? ⟨wr.heap.size, 1, none⟩ = some (.func (.func 78) #[] #[]) ∧ Kept6 w0.heap.size wr.heap.size w0 wr (J pre) w') (first | (refine ⟨?_, ?_, ?_⟩ <;> assumption)) (first | (go_at_call 74; refine (upper_keep s hsz w0.heap.size wr.heap.size _ _ w0 wr (J pre) (HJ.out pre) _ (by assumption) (by assumption) (by assumption) hsize).mono ?_; rintro e w' ⟨rfl, hk0, hk1, hk2⟩))
            try clear hHeld
            go_upto_region 7 with fail
            obtain ⟨fn, tmps, assign, body, hy, hR⟩ := HY.out pre ⟨2, by omega⟩ _ hk2.2.2.2.1 (by have := HP.out.1; omega)
            simp only [wenc, wv, wd] at hy
            have HRo := Aside0.mk hR
            clear hR
            refine (wpIn_wide (n := 6)).1 ?_
            gi_wp2
            refine HRo.out.mono ?_
            have hkn := knw_cons hlt HSX.out
            rw [kix_some s ⟨2, by omega⟩ HQ.out (fun i hi => HN.out i hi)] at hkn
            have HK := Aside0.mk hkn
            clear hkn
            rintro e W3 (⟨rfl, hJ3, hb3⟩ | ⟨rfl, hJx3⟩)
            · gi_wp2
              go_wp2
              go_roundg (l.length - (j + 1))
              case measure => omega
              case rel => exact ⟨j + 1, pre ++ [⟨2, by omega⟩], by go_num, by omega, by omega, ⟨by simp [HP.out.1], by have h := HP.out.2; rw [HK.out] at h; simpa using h⟩, ⟨hJ3⟩, ⟨hk2.2.1.trans hb3⟩⟩
            · gi_wp2
              go_wp2
              rw [Exit.noGoto_ret]
              refine bodyPost_ret (results_none rfl _ _ _) rfl ?_
              exact ⟨⟨_, rfl⟩, .inr ⟨pre ++ [⟨2, by omega⟩], ⟨knw (l.drop (j + 1)), by have h := HP.out.2; rw [HK.out] at h; simpa using h⟩, hJx3⟩⟩
          have hqb : (up s == [71, 84]) = false := beq_eq_false_iff_ne.mpr hq
          have HQ := Aside0.mk hq
          clear hq
          go_upto_region 6 with fail
          have f0 : (wr.alloc (.cells #[.string ⟨#[71, 84]⟩, .func (.func 78) #[] #[]] 132)).cell? ⟨wr.heap.size, 0, none⟩ = some (.string ⟨#[71, 84]⟩) := by simp
          have f1 : (wr.alloc (.cells #[.string ⟨#[71, 84]⟩, .func (.func 78) #[] #[]] 132)).cell? ⟨wr.heap.size, 1, none⟩ = some (.func (.func 78) #[] #[]) := by simp
          have fk : Kept6 w0.heap.size wr.heap.size w0 wr (J pre) (wr.alloc (.cells #[.string ⟨#[71, 84]⟩, .func (.func 78) #[] #[]] 132)) := ⟨by simp, HBk.out.alloc (by simpa using hsize) _, below_alloc (Below.refl _ _) _, HJ.out _ _ _ HJk.out (below_alloc (Below.refl _ _) _), by omega⟩
          generalize hW6 : World.alloc wr _ = W6 at f0 f1 fk ⊢
          clear hW6
          have d0 : W6.drew.cell? ⟨wr.heap.size, 0, none⟩ = some (.string ⟨#[71, 84]⟩) := f0
          have d1 : W6.drew.cell? ⟨wr.heap.size, 1, none⟩ = some (.func (.func 78) #[] #[]) := f1
          have dk := fk.drew (HJ.out pre)
          go_region_held3 (fun w' => w'.cell? ⟨wr.heap.size, 0, none⟩ = some (.string ⟨#[71, 84]⟩) ∧ w'.cell? ⟨wr.heap.size, 1, none⟩ = some (.func (.func 78) #[] #[]) ∧ Kept6 w0.heap.size wr.heap.size w0 wr (J pre) w') (first | (refine ⟨?_, ?_, ?_⟩ <;> assumption)) (first | (go_at_call 74; refine (upper_keep s hsz w0.heap.size wr.heap.size _ _ w0 wr (J pre) (HJ.out pre) _ (by assumption) (by assumption) (by assumption) hsize).mono ?_; rintro e w' ⟨rfl, hk0, hk1, hk2⟩))
          try clear hHeld
          go_wp2
          go_roundg (6 - 3)
          case measure => omega
          case rel => exact ⟨3, by go_num, by omega, by omega, ⟨none_more HN.out HQ.out⟩, ⟨hk2.2.2.2.1⟩, ⟨hk2.2.1⟩⟩
        · have hix := wvs_at3
          have hsize : w0.heap.size ≤ wr.heap.size := HBk.out.size
          by_cases hq : up s = wl 3
          · have hqb : (up s == [76, 84]) = true := by rw [hq]; rfl
            have HQ := Aside0.mk hq
            clear hq
            go_upto_region 6 with fail
            have f0 : (wr.alloc (.cells #[.string ⟨#[76, 84]⟩, .func (.func 79) #[] #[]] 132)).cell? ⟨wr.heap.size, 0, none⟩ = some (.string ⟨#[76, 84]⟩) := by simp
            have f1 : (wr.alloc (.cells #[.string ⟨#[76, 84]⟩, .func (.func 79) #[] #[]] 132)).cell? ⟨wr.heap.size, 1, none⟩ = some (.func (.func 79) #[] #[]) := by simp
            have fk : Kept6 w0.heap.size wr.heap.size w0 wr (J pre) (wr.alloc (.cells #[.string ⟨#[76, 84]⟩, .func (.func 79) #[] #[]] 132)) := ⟨by simp, HBk.out.alloc (by simpa using hsize) _, below_alloc (Below.refl _ _) _, HJ.out _ _ _ HJk.out (below_alloc (Below.refl _ _) _), by omega⟩
            generalize hW6 : World.alloc wr _ = W6 at f0 f1 fk ⊢
            clear hW6
            have d0 : W6.drew.cell? ⟨wr.heap.size, 0, none⟩ = some (.string ⟨#[76, 84]⟩) := f0
            have d1 : W6.drew.cell? ⟨wr.heap.size, 1, none⟩ = some (.func (.func 79) #[] #[]) := f1
            have dk := fk.drew (HJ.out pre)
            go_region_held3 (fun w' => w'.cell? ⟨wr.heap.size, 0, none⟩ = some (.string ⟨#[76, 84]⟩) ∧ w'.cell? ⟨wr.heap.size, 1, none⟩ = some (.func (.func 79) #[] #[]) ∧ Kept6 w0.heap.size wr.heap.size w0 wr (J pre) w') (first | (refine ⟨?_, ?_, ?_⟩ <;> assumption)) (first | (go_at_call 74; refine (upper_keep s hsz w0.heap.size wr.heap.size _ _ w0 wr (J pre) (HJ.out pre) _ (by assumption) (by assumption) (by assumption) hsize).mono ?_; rintro e w' ⟨rfl, hk0, hk1, hk2⟩))
            try clear hHeld
            go_upto_region 7 with fail
            obtain ⟨fn, tmps, assign, body, hy, hR⟩ := HY.out pre ⟨3, by omega⟩ _ hk2.2.2.2.1 (by have := HP.out.1; omega)
            simp only [wenc, wv, wd] at hy
            have HRo := Aside0.mk hR
            clear hR
            refine (wpIn_wide (n := 6)).1 ?_
            gi_wp2
            refine HRo.out.mono ?_
            have hkn := knw_cons hlt HSX.out
            rw [kix_some s ⟨3, by omega⟩ HQ.out (fun i hi => HN.out i hi)] at hkn
            have HK := Aside0.mk hkn
            clear hkn
            rintro e W3 (⟨rfl, hJ3, hb3⟩ | ⟨rfl, hJx3⟩)
            · gi_wp2
              go_wp2
              go_roundg (l.length - (j + 1))
              case measure => omega
              case rel => exact ⟨j + 1, pre ++ [⟨3, by omega⟩], by go_num, by omega, by omega, ⟨by simp [HP.out.1], by have h := HP.out.2; rw [HK.out] at h; simpa using h⟩, ⟨hJ3⟩, ⟨hk2.2.1.trans hb3⟩⟩
            · gi_wp2
              go_wp2
              rw [Exit.noGoto_ret]
              refine bodyPost_ret (results_none rfl _ _ _) rfl ?_
              exact ⟨⟨_, rfl⟩, .inr ⟨pre ++ [⟨3, by omega⟩], ⟨knw (l.drop (j + 1)), by have h := HP.out.2; rw [HK.out] at h; simpa using h⟩, hJx3⟩⟩
          have hqb : (up s == [76, 84]) = false := beq_eq_false_iff_ne.mpr hq
          have HQ := Aside0.mk hq
          clear hq
          go_upto_region 6 with fail
          have f0 : (wr.alloc (.cells #[.string ⟨#[76, 84]⟩, .func (.func 79) #[] #[]] 132)).cell? ⟨wr.heap.size, 0, none⟩ = some (.string ⟨#[76, 84]⟩) := by simp
          have f1 : (wr.alloc (.cells #[.string ⟨#[76, 84]⟩, .func (.func 79) #[] #[]] 132)).cell? ⟨wr.heap.size, 1, none⟩ = some (.func (.func 79) #[] #[]) := by simp
          have fk : Kept6 w0.heap.size wr.heap.size w0 wr (J pre) (wr.alloc (.cells #[.string ⟨#[76, 84]⟩, .func (.func 79) #[] #[]] 132)) := ⟨by simp, HBk.out.alloc (by simpa using hsize) _, below_alloc (Below.refl _ _) _, HJ.out _ _ _ HJk.out (below_alloc (Below.refl _ _) _), by omega⟩
          generalize hW6 : World.alloc wr _ = W6 at f0 f1 fk ⊢
          clear hW6
          have d0 : W6.drew.cell? ⟨wr.heap.size, 0, none⟩ = some (.string ⟨#[76, 84]⟩) := f0
          have d1 : W6.drew.cell? ⟨wr.heap.size, 1, none⟩ = some (.func (.func 79) #[] #[]) := f1
          have dk := fk.drew (HJ.out pre)
          go_region_held3 (fun w' => w'.cell? ⟨wr.heap.size, 0, none⟩ = some (.string ⟨#[76, 84]⟩) ∧ w'.cell? ⟨wr.heap.size, 1, none⟩ = some (.func (.func 79) #[] #[]) ∧ Kept6 w0.heap.size wr.heap.size w0 wr (J pre) w') (first | (refine ⟨?_, ?_, ?_⟩ <;> assumption)) (first | (go_at_call 74; refine (upper_keep s hsz w0.heap.size wr.heap.size _ _ w0 wr (J pre) (HJ.out pre) _ (by assumption) (by assumption) (by assumption) hsize).mono ?_; rintro e w' ⟨rfl, hk0, hk1, hk2⟩))
          try clear hHeld
          go_wp2
          go_roundg (6 - 4)
          case measure => omega
          case rel => exact ⟨4, by go_num, by omega, by omega, ⟨none_more HN.out HQ.out⟩, ⟨hk2.2.2.2.1⟩, ⟨hk2.2.1⟩⟩
        · have hix := wvs_at4
          have hsize : w0.heap.size ≤ wr.heap.size := HBk.out.size
          by_cases hq : up s = wl 4
          · have hqb : (up s == [67, 72]) = true := by rw [hq]; rfl
            have HQ := Aside0.mk hq
            clear hq
            go_upto_region 6 with fail
            have f0 : (wr.alloc (.cells #[.string ⟨#[67, 72]⟩, .func (.func 80) #[] #[]] 132)).cell? ⟨wr.heap.size, 0, none⟩ = some (.string ⟨#[67, 72]⟩) := by simp
            have f1 : (wr.alloc (.cells #[.string ⟨#[67, 72]⟩, .func (.func 80) #[] #[]] 132)).cell? ⟨wr.heap.size, 1, none⟩ = some (.func (.func 80) #[] #[]) := by simp
            have fk : Kept6 w0.heap.size wr.heap.size w0 wr (J pre) (wr.alloc (.cells #[.string ⟨#[67, 72]⟩, .func (.func 80) #[] #[]] 132)) := ⟨by simp, HBk.out.alloc (by simpa using hsize) _, below_alloc (Below.refl _ _) _, HJ.out _ _ _ HJk.out (below_alloc (Below.refl _ _) _), by omega⟩
            generalize hW6 : World.alloc wr _ = W6 at f0 f1 fk ⊢
            clear hW6
            have d0 : W6.drew.cell? ⟨wr.heap.size, 0, none⟩ = some (.string ⟨#[67, 72]⟩) := f0
            have d1 : W6.drew.cell? ⟨wr.heap.size, 1, none⟩ = some (.func (.func 80) #[] #[]) := f1
            have dk := fk.drew (HJ.out pre)
            go_region_held3 (fun w' => w'.cell? ⟨wr.heap.size, 0, none⟩ = some (.string ⟨#[67, 72]⟩) ∧ w'.cell? ⟨wr.heap.size, 1, none⟩ = some (.func (.func 80) #[] #[]) ∧ Kept6 w0.heap.size wr.heap.size w0 wr (J pre) w') (first | (refine ⟨?_, ?_, ?_⟩ <;> assumption)) (first | (go_at_call 74; refine (upper_keep s hsz w0.heap.size wr.heap.size _ _ w0 wr (J pre) (HJ.out pre) _ (by assumption) (by assumption) (by assumption) hsize).mono ?_; rintro e w' ⟨rfl, hk0, hk1, hk2⟩))
            try clear hHeld
            go_upto_region 7 with fail
            obtain ⟨fn, tmps, assign, body, hy, hR⟩ := HY.out pre ⟨4, by omega⟩ _ hk2.2.2.2.1 (by have := HP.out.1; omega)
            simp only [wenc, wv, wd] at hy
            have HRo := Aside0.mk hR
            clear hR
            refine (wpIn_wide (n := 6)).1 ?_
            gi_wp2
            refine HRo.out.mono ?_
            have hkn := knw_cons hlt HSX.out
            rw [kix_some s ⟨4, by omega⟩ HQ.out (fun i hi => HN.out i hi)] at hkn
            have HK := Aside0.mk hkn
            clear hkn
            rintro e W3 (⟨rfl, hJ3, hb3⟩ | ⟨rfl, hJx3⟩)
            · gi_wp2
              go_wp2
              go_roundg (l.length - (j + 1))
              case measure => omega
              case rel => exact ⟨j + 1, pre ++ [⟨4, by omega⟩], by go_num, by omega, by omega, ⟨by simp [HP.out.1], by have h := HP.out.2; rw [HK.out] at h; simpa using h⟩, ⟨hJ3⟩, ⟨hk2.2.1.trans hb3⟩⟩
            · gi_wp2
              go_wp2
              rw [Exit.noGoto_ret]
              refine bodyPost_ret (results_none rfl _ _ _) rfl ?_
              exact ⟨⟨_, rfl⟩, .inr ⟨pre ++ [⟨4, by omega⟩], ⟨knw (l.drop (j + 1)), by have h := HP.out.2; rw [HK.out] at h; simpa using h⟩, hJx3⟩⟩
          have hqb : (up s == [67, 72]) = false := beq_eq_false_iff_ne.mpr hq
          have HQ := Aside0.mk hq
          clear hq
          go_upto_region 6 with fail
          have f0 : (wr.alloc (.cells #[.string ⟨#[67, 72]⟩, .func (.func 80) #[] #[]] 132)).cell? ⟨wr.heap.size, 0, none⟩ = some (.string ⟨#[67, 72]⟩) := by simp
          have f1 : (wr.alloc (.cells #[.string ⟨#[67, 72]⟩, .func (.func 80) #[] #[]] 132)).cell? ⟨wr.heap.size, 1, none⟩ = some (.func (.func 80) #[] #[]) := by simp
          have fk : Kept6 w0.heap.size wr.heap.size w0 wr (J pre) (wr.alloc (.cells #[.string ⟨#[67, 72]⟩, .func (.func 80) #[] #[]] 132)) := ⟨by simp, HBk.out.alloc (by simpa using hsize) _, below_alloc (Below.refl _ _) _, HJ.out _ _ _ HJk.out (below_alloc (Below.refl _ _) _), by omega⟩
          generalize hW6 : World.alloc wr _ = W6 at f0 f1 fk ⊢
          clear hW6
          have d0 : W6.drew.cell? ⟨wr.heap.size, 0, none⟩ = some (.string ⟨#[67, 72]⟩) := f0
          have d1 : W6.drew.cell? ⟨wr.heap.size, 1, none⟩ = some (.func (.func 80) #[] #[]) := f1
          have dk := fk.drew (HJ.out pre)
          go_region_held3 (fun w' => w'.cell? ⟨wr.heap.size, 0, none⟩ = some (.string ⟨#[67, 72]⟩) ∧ w'.cell? ⟨wr.heap.size, 1, none⟩ = some (.func (.func 80) #[] #[]) ∧ Kept6 w0.heap.size wr.heap.size w0 wr (J pre) w') (first | (refine ⟨?_, ?_, ?_⟩ <;> assumption)) (first | (go_at_call 74; refine (upper_keep s hsz w0.heap.size wr.heap.size _ _ w0 wr (J pre) (HJ.out pre) _ (by assumption) (by assumption) (by assumption) hsize).mono ?_; rintro e w' ⟨rfl, hk0, hk1, hk2⟩))
          try clear hHeld
          go_wp2
          go_roundg (6 - 5)
          case measure => omega
          case rel => exact ⟨5, by go_num, by omega, by omega, ⟨none_more HN.out HQ.out⟩, ⟨hk2.2.2.2.1⟩, ⟨hk2.2.1⟩⟩
        · have hix := wvs_at5
          have hsize : w0.heap.size ≤ wr.heap.size := HBk.out.size
          by_cases hq : up s = wl 5
          · have hqb : (up s == [73, 78, 67, 82]) = true := by rw [hq]; rfl
            have HQ := Aside0.mk hq
            clear hq
            go_upto_region 6 with fail
            have f0 : (wr.alloc (.cells #[.string ⟨#[73, 78, 67, 82]⟩, .func (.func 81) #[] #[]] 132)).cell? ⟨wr.heap.size, 0, none⟩ = some (.string ⟨#[73, 78, 67, 82]⟩) := by simp
            have f1 : (wr.alloc (.cells #[.string ⟨#[73, 78, 67, 82]⟩, .func (.func 81) #[] #[]] 132)).cell? ⟨wr.heap.size, 1, none⟩ = some (.func (.func 81) #[] #[]) := by simp
            have fk : Kept6 w0.heap.size wr.heap.size w0 wr (J pre) (wr.alloc (.cells #[.string ⟨#[73, 78, 67, 82]⟩, .func (.func 81) #[] #[]] 132)) := ⟨by simp, HBk.out.alloc (by simpa using hsize) _, below_alloc (Below.refl _ _) _, HJ.out _ _ _ HJk.out (below_alloc (Below.refl _ _) _), by omega⟩
            generalize hW6 : World.alloc wr _ = W6 at f0 f1 fk ⊢
            clear hW6
            have d0 : W6.drew.cell? ⟨wr.heap.size, 0, none⟩ = some (.string ⟨#[73, 78, 67, 82]⟩) := f0
            have d1 : W6.drew.cell? ⟨wr.heap.size, 1, none⟩ = some (.func (.func 81) #[] #[]) := f1
            have dk := fk.drew (HJ.out pre)
            go_region_held3 (fun w' => w'.cell? ⟨wr.heap.size, 0, none⟩ = some (.string ⟨#[73, 78, 67, 82]⟩) ∧ w'.cell? ⟨wr.heap.size, 1, none⟩ = some (.func (.func 81) #[] #[]) ∧ Kept6 w0.heap.size wr.heap.size w0 wr (J pre) w') (first | (refine ⟨?_, ?_, ?_⟩ <;> assumption)) (first | (go_at_call 74; refine (upper_keep s hsz w0.heap.size wr.heap.size _ _ w0 wr (J pre) (HJ.out pre) _ (by assumption) (by assumption) (by assumption) hsize).mono ?_; rintro e w' ⟨rfl, hk0, hk1, hk2⟩))
            try clear hHeld
            go_upto_region 7 with fail
            obtain ⟨fn, tmps, assign, body, hy, hR⟩ := HY.out pre ⟨5, by omega⟩ _ hk2.2.2.2.1 (by have := HP.out.1; omega)
            simp only [wenc, wv, wd] at hy
            have HRo := Aside0.mk hR
            clear hR
            refine (wpIn_wide (n := 6)).1 ?_
            gi_wp2
            refine HRo.out.mono ?_
            have hkn := knw_cons hlt HSX.out
            rw [kix_some s ⟨5, by omega⟩ HQ.out (fun i hi => HN.out i hi)] at hkn
            have HK := Aside0.mk hkn
            clear hkn
            rintro e W3 (⟨rfl, hJ3, hb3⟩ | ⟨rfl, hJx3⟩)
            · gi_wp2
              go_wp2
              go_roundg (l.length - (j + 1))
              case measure => omega
              case rel => exact ⟨j + 1, pre ++ [⟨5, by omega⟩], by go_num, by omega, by omega, ⟨by simp [HP.out.1], by have h := HP.out.2; rw [HK.out] at h; simpa using h⟩, ⟨hJ3⟩, ⟨hk2.2.1.trans hb3⟩⟩
            · gi_wp2
              go_wp2
              rw [Exit.noGoto_ret]
              refine bodyPost_ret (results_none rfl _ _ _) rfl ?_
              exact ⟨⟨_, rfl⟩, .inr ⟨pre ++ [⟨5, by omega⟩], ⟨knw (l.drop (j + 1)), by have h := HP.out.2; rw [HK.out] at h; simpa using h⟩, hJx3⟩⟩
          have hqb : (up s == [73, 78, 67, 82]) = false := beq_eq_false_iff_ne.mpr hq
          have HQ := Aside0.mk hq
          clear hq
          go_upto_region 6 with fail
          have f0 : (wr.alloc (.cells #[.string ⟨#[73, 78, 67, 82]⟩, .func (.func 81) #[] #[]] 132)).cell? ⟨wr.heap.size, 0, none⟩ = some (.string ⟨#[73, 78, 67, 82]⟩) := by simp
          have f1 : (wr.alloc (.cells #[.string ⟨#[73, 78, 67, 82]⟩, .func (.func 81) #[] #[]] 132)).cell? ⟨wr.heap.size, 1, none⟩ = some (.func (.func 81) #[] #[]) := by simp
          have fk : Kept6 w0.heap.size wr.heap.size w0 wr (J pre) (wr.alloc (.cells #[.string ⟨#[73, 78, 67, 82]⟩, .func (.func 81) #[] #[]] 132)) := ⟨by simp, HBk.out.alloc (by simpa using hsize) _, below_alloc (Below.refl _ _) _, HJ.out _ _ _ HJk.out (below_alloc (Below.refl _ _) _), by omega⟩
          generalize hW6 : World.alloc wr _ = W6 at f0 f1 fk ⊢
          clear hW6
          have d0 : W6.drew.cell? ⟨wr.heap.size, 0, none⟩ = some (.string ⟨#[73, 78, 67, 82]⟩) := f0
          have d1 : W6.drew.cell? ⟨wr.heap.size, 1, none⟩ = some (.func (.func 81) #[] #[]) := f1
          have dk := fk.drew (HJ.out pre)
          go_region_held3 (fun w' => w'.cell? ⟨wr.heap.size, 0, none⟩ = some (.string ⟨#[73, 78, 67, 82]⟩) ∧ w'.cell? ⟨wr.heap.size, 1, none⟩ = some (.func (.func 81) #[] #[]) ∧ Kept6 w0.heap.size wr.heap.size w0 wr (J pre) w') (first | (refine ⟨?_, ?_, ?_⟩ <;> assumption)) (first | (go_at_call 74; refine (upper_keep s hsz w0.heap.size wr.heap.size _ _ w0 wr (J pre) (HJ.out pre) _ (by assumption) (by assumption) (by assumption) hsize).mono ?_; rintro e w' ⟨rfl, hk0, hk1, hk2⟩))
          try clear hHeld
          go_wp2
          go_roundg (6 - 6)
          case measure => omega
          case rel => exact ⟨6, by go_num, by omega, by omega, ⟨none_more HN.out HQ.out⟩, ⟨hk2.2.2.2.1⟩, ⟨hk2.2.1⟩⟩
        · go_wp2
          rw [Exit.noGoto_ret]
          refine bodyPost_ret (results_none rfl _ _ _) rfl ?_
          refine ⟨⟨_, rfl⟩, .inl ⟨pre, ?_, HJk.out⟩⟩
          have h1 := HP.out.2
          rw [knw_cons hlt HSX.out, kix_none s HN.out] at h1
          simpa using h1
    · have hj2 : l.drop j = [] := List.drop_of_length_le (by omega)
      have hjz : ¬ (j : Int) < (l.length : Int) := by omega
      have H2 := HP.out.2
      rw [hj2] at H2
      have HP2 := Aside0.mk H2
      clear hj2 H2
      go_wp2
      go_end0
      exact ⟨⟨_, rfl⟩, .inl ⟨pre, by simpa [knw] using HP2.out, HJp.out⟩⟩
attribute [local go_sem] Oper.semAt_some

theorem Blk.own {β : Type} (B : Nat) (T : TypeId) (f : β → Array Value) : Own (fun s W => Blk W B T (f s)) := by
  intro s X Y row hs hg hrow
  have hlt : B < X.heap.size := (Array.getElem?_eq_some_iff.1 hs).1
  refine (hg.block B hlt (fun e => ?_)).trans hs
  obtain ⟨o, ho, hc⟩ := hrow B e.symm
  rw [show X.heap[B]? = _ from hs] at ho
  cases ho
  cases hc
theorem heap_drew {W : World} {D : Nat} {o : Obj} (h : W.heap[D]? = some o) : W.drew.heap[D]? = some o := h
/-- The six flags of some words. -/
def fls (pre : List (Fin 6)) : Array Value := #[.bool (decide ((0 : Fin 6) ∈ pre)), .bool (decide ((1 : Fin 6) ∈ pre)), .bool (decide ((2 : Fin 6) ∈ pre)), .bool (decide ((3 : Fin 6) ∈ pre)), .bool (decide ((4 : Fin 6) ∈ pre)), .bool (decide ((5 : Fin 6) ∈ pre))]
theorem fls_snoc (pre : List (Fin 6)) (k : Fin 6) : fls (pre ++ [k]) = (fls pre).setIfInBounds k.val (.bool true) := by
  revert k
  intro ⟨k, hk⟩
  have h6 : k = 0 ∨ k = 1 ∨ k = 2 ∨ k = 3 ∨ k = 4 ∨ k = 5 := by omega
  rcases h6 with rfl | rfl | rfl | rfl | rfl | rfl <;> simp [fls]
theorem len_snoc {α : Type} (pre : List α) (k : α) : (#[.int .i64 ((pre ++ [k]).length : Int)] : Array Value) = (#[.int .i64 (pre.length : Int)] : Array Value).setIfInBounds 0 (.int .i64 ((pre.length : Int) + 1)) := by simp
theorem at_calls (k : Fin 6) (B : Nat) (w : World) : Calls Tryd.prog (76 + k.val) #[.pointer (some ⟨B, 0, none⟩)] w fun e w' => e = .returned (.pointer (some ⟨B, k.val, none⟩)) ∧ w = w' := by
  revert k
  intro ⟨k, hk⟩
  have h6 : k = 0 ∨ k = 1 ∨ k = 2 ∨ k = 3 ∨ k = 4 ∨ k = 5 := by omega
  rcases h6 with rfl | rfl | rfl | rfl | rfl | rfl
  · go_enter Tryd.func76, Tryd.ntmps76
    go_wp2
    go_ret
    exact ⟨rfl, rfl⟩
  · go_enter Tryd.func77, Tryd.ntmps77
    go_wp2
    go_ret
    exact ⟨rfl, rfl⟩
  · go_enter Tryd.func78, Tryd.ntmps78
    go_wp2
    go_ret
    exact ⟨rfl, rfl⟩
  · go_enter Tryd.func79, Tryd.ntmps79
    go_wp2
    go_ret
    exact ⟨rfl, rfl⟩
  · go_enter Tryd.func80, Tryd.ntmps80
    go_wp2
    go_ret
    exact ⟨rfl, rfl⟩
  · go_enter Tryd.func81, Tryd.ntmps81
    go_wp2
    go_ret
    exact ⟨rfl, rfl⟩
theorem known_calls (A : Option Addr) (n c : Nat) (w : World) : Calls Tryd.prog 63 #[.slice A n c] w fun e w' => e = .returned (.func (.func 72) #[] #[.pointer (some ⟨w.heap.size, 0, none⟩)]) ∧ w' = w.alloc (.cells #[.slice A n c] 22) := by
  go_enter Tryd.func63, Tryd.ntmps63
  go_wp2
  go_ret
  exact ⟨rfl, rfl⟩
/-- What known's value promises a loop over it. -/
theorem known_stops (l : List ByteArray) (hs : ∀ s ∈ l, s.size ≤ 1000) (A : Option Addr) (c : Nat) (w0 : World) (hC : Kd.C Kd.string w0 A l.length l) (hlen : l.length ≤ 1000) (Bs : Nat) (w : World) (hb : Below w0.heap.size w0 w) (hlt : Bs < w.heap.size) (hBs : w.cell? ⟨Bs, 0, none⟩ = some (.slice A l.length c)) :
    SeqStopsK Fence.wide 6 Tryd.prog 72 #[.pointer (some ⟨Bs, 0, none⟩)] wenc (Below w0.heap.size) (fun ys => ys = knw l) (fun pre => pre <+: knw l) l.length w := fun lp J Jx W hW hJ _ hY h0 => by
  exact callsIn_wide.2 (known1 l hs A c w0 hC hlen Bs lp J Jx (fun s X Y hs hb => hJ s X Y none hs ⟨hb.os, hb.tape, hb.output, hb.size, fun k hk _ => hb.block k hk⟩ (fun r e => by cases e)) hY W (hb.trans (hW.mono hb.size)) ((hW.cell (p := ⟨Bs, 0, none⟩) hlt).trans hBs) h0)
theorem calls_of_wp_marks {P : Program} {f : FuncId} {fn : Func} {c : Code} {args : Array Value} {w : World} {R : Ending → World → Prop} (n : Nat)
    (hf : P.funcs[f]? = some fn) (hb : fn.body = some c) (h : c.wp P (bodyPostM Fence.wide n P fn R) { tmps := args ++ Array.replicate (fn.ntmps - args.size) undef, defers := [] } w) : Calls P f args w R :=
  callsIn_wide.1 (callsIn_of_wp_marks hf hb trivial (wpIn_wide.2 h) rfl)
theorem six_set {W : World} {B : Nat} (h : Blk W B 27 (fls [])) (x0 x1 x2 x3 x4 x5 : Bool) : Blk ((((((W.setCell ⟨B, 0, none⟩ (.bool x0)).setCell ⟨B, 1, none⟩ (.bool x1)).setCell ⟨B, 2, none⟩ (.bool x2)).setCell ⟨B, 3, none⟩ (.bool x3)).setCell ⟨B, 4, none⟩ (.bool x4)).setCell ⟨B, 5, none⟩ (.bool x5)) B 27 #[.bool x0, .bool x1, .bool x2, .bool x3, .bool x4, .bool x5] := by
  have := (((((h.set 0 (.bool x0)).set 1 (.bool x1)).set 2 (.bool x2)).set 3 (.bool x3)).set 4 (.bool x4)).set 5 (.bool x5)
  simpa [fls] using this
theorem six_keeps (W : World) (B : Nat) (v0 v1 v2 v3 v4 v5 : Value) : KeepsOthers W ((((((W.setCell ⟨B, 0, none⟩ v0).setCell ⟨B, 1, none⟩ v1).setCell ⟨B, 2, none⟩ v2).setCell ⟨B, 3, none⟩ v3).setCell ⟨B, 4, none⟩ v4).setCell ⟨B, 5, none⟩ v5) :=
  (((((KeepsOthers.setCell _ _ _).trans (KeepsOthers.setCell _ _ _)).trans (KeepsOthers.setCell _ _ _)).trans (KeepsOthers.setCell _ _ _)).trans (KeepsOthers.setCell _ _ _)).trans (KeepsOthers.setCell _ _ _)
theorem six_below {w W : World} (h : Below w.heap.size w W) {B : Nat} (hB : w.heap.size ≤ B) (v0 v1 v2 v3 v4 v5 : Value) : Below w.heap.size w ((((((W.setCell ⟨B, 0, none⟩ v0).setCell ⟨B, 1, none⟩ v1).setCell ⟨B, 2, none⟩ v2).setCell ⟨B, 3, none⟩ v3).setCell ⟨B, 4, none⟩ v4).setCell ⟨B, 5, none⟩ v5) :=
  (((((h.setCell (p := ⟨B, 0, none⟩) hB _).setCell (p := ⟨B, 1, none⟩) hB _).setCell (p := ⟨B, 2, none⟩) hB _).setCell (p := ⟨B, 3, none⟩) hB _).setCell (p := ⟨B, 4, none⟩) hB _).setCell (p := ⟨B, 5, none⟩) hB _
set_option maxHeartbeats 1000000 in
theorem read_end (w W : World) (D : Nat) (x0 x1 x2 x3 x4 x5 : Bool) (n e : Int) (v0 v1 v5 v6 v7 v8 v9 v10 v11 v12 v13 v14 v15 v16 v17 v18 v19 v20 v21 v22 : Value) (hB : Blk W w.heap.size 27 #[.bool x0, .bool x1, .bool x2, .bool x3, .bool x4, .bool x5]) (hK : W.heap[D]? = some (.deferred (some []))) (hD : w.heap.size < D) (hb : Below w.heap.size w W) (R : Value) (hR : R = .tuple #[.agg #[.bool x0, .bool x1, .bool x2, .bool x3, .bool x4, .bool x5], .int .i64 n, .int .i64 e]) :
    bodyPostM Fence.wide 8 Tryd.prog Tryd.f47 (fun e' w' => e' = .returned R ∧ Below w.heap.size w w') .ret { tmps := #[v0, v1, .pointer (some ⟨w.heap.size, 0, none⟩), .int .i64 n, .int .i64 e, v5, v6, v7, v8, v9, v10, v11, v12, v13, v14, v15, v16, v17, v18, v19, v20, v21, v22], defers := [{ target := .collected D, args := #[] }] } W := by
  subst hR
  refine ⟨by simp, .inl ⟨_, _, rfl, run_takeDeferred hK, ?_⟩⟩
  have hB2 : Blk (W.putObj D (.deferred none)) w.heap.size 27 #[.bool x0, .bool x1, .bool x2, .bool x3, .bool x4, .bool x5] := (World.putObj_heap_other (by omega)).trans hB
  have r0 : (W.putObj D (.deferred none)).cell? ⟨w.heap.size, 0, none⟩ = some (.bool x0) := hB2.cell 0
  have r1 : (W.putObj D (.deferred none)).cell? ⟨w.heap.size, 1, none⟩ = some (.bool x1) := hB2.cell 1
  have r2 : (W.putObj D (.deferred none)).cell? ⟨w.heap.size, 2, none⟩ = some (.bool x2) := hB2.cell 2
  have r3 : (W.putObj D (.deferred none)).cell? ⟨w.heap.size, 3, none⟩ = some (.bool x3) := hB2.cell 3
  have r4 : (W.putObj D (.deferred none)).cell? ⟨w.heap.size, 4, none⟩ = some (.bool x4) := hB2.cell 4
  have r5 : (W.putObj D (.deferred none)).cell? ⟨w.heap.size, 5, none⟩ = some (.bool x5) := hB2.cell 5
  refine ⟨.tuple #[.agg #[.bool x0, .bool x1, .bool x2, .bool x3, .bool x4, .bool x5], .int .i64 n, .int .i64 e], ?_, rfl, hb.trans (belowK_b (w := w) (Nat.le_refl _) W D _ _ (by omega) hK rfl rfl)⟩
  simp [results, Tryd.f47, go_sem, r0, r1, r2, r3, r4, r5]
set_option maxHeartbeats 8000000 in
set_option maxRecDepth 100000 in
theorem read_calls (l : List ByteArray) (hs : ∀ s ∈ l, s.size ≤ 1000) (A : Option Addr) (c : Nat) (w : World) (hC : Kd.C Kd.string w A l.length l) (hlen : l.length ≤ 1000) (ok : Bool) (hr : flags_Right.f (decide ((0 : Fin 6) ∈ knw l)) (decide ((1 : Fin 6) ∈ knw l)) (decide ((2 : Fin 6) ∈ knw l)) (decide ((3 : Fin 6) ∈ knw l)) (decide ((4 : Fin 6) ∈ knw l)) (decide ((5 : Fin 6) ∈ knw l)) = some ok) :
    Calls Tryd.prog 47 #[.slice A l.length c] w fun e w' => e = .returned (if ok = true then .tuple #[.agg (fls (knw l)), .int .i64 (knw l).length, .int .i64 0] else .tuple #[.agg (fls []), .int .i64 0, .int .i64 110]) ∧ Below w.heap.size w w' := by
  have HC := Aside0.mk hC
  have HR := Aside0.mk hr
  have HS := Aside0.mk hs
  clear hC hr hs
  refine calls_of_wp_marks 8 Tryd.func47 rfl ?_
  simp only [Tryd.ntmps47, List.size_toArray, List.length_cons, List.length_nil, Nat.reduceAdd, Nat.reduceSub, Array.replicate_succ, Array.replicate_zero, List.push_toArray, List.append_toArray, List.nil_append, List.cons_append]
  go_wp2_with fail
  refine (known_calls _ _ _ _).mono ?_
  rintro e w' ⟨rfl, rfl⟩
  go_wp2
  have b0 : Blk ((((w.alloc (.cells #[.bool false, .bool false, .bool false, .bool false, .bool false, .bool false] 27)).alloc (.cells #[.bool false, .bool false, .bool false, .bool false, .bool false, .bool false] 27)).alloc (.cells #[.int .i64 0] 3)).alloc (.cells #[.slice A l.length c] 22)) w.heap.size 27 (fls []) := (((Blk.new w 27 _).alloc _).alloc _).alloc _
  have b1 : Blk ((((w.alloc (.cells #[.bool false, .bool false, .bool false, .bool false, .bool false, .bool false] 27)).alloc (.cells #[.bool false, .bool false, .bool false, .bool false, .bool false, .bool false] 27)).alloc (.cells #[.int .i64 0] 3)).alloc (.cells #[.slice A l.length c] 22)) (w.heap.size + 1) 27 (fls []) := by
    have := ((Blk.new (w.alloc (.cells #[.bool false, .bool false, .bool false, .bool false, .bool false, .bool false] 27)) 27 (fls [])).alloc (.cells #[.int .i64 0] 3)).alloc (.cells #[.slice A l.length c] 22)
    rwa [World.size_alloc] at this
  have b2 : Blk ((((w.alloc (.cells #[.bool false, .bool false, .bool false, .bool false, .bool false, .bool false] 27)).alloc (.cells #[.bool false, .bool false, .bool false, .bool false, .bool false, .bool false] 27)).alloc (.cells #[.int .i64 0] 3)).alloc (.cells #[.slice A l.length c] 22)) (w.heap.size + 1 + 1) 3 #[.int .i64 0] := by
    have := (Blk.new ((w.alloc (.cells #[.bool false, .bool false, .bool false, .bool false, .bool false, .bool false] 27)).alloc (.cells #[.bool false, .bool false, .bool false, .bool false, .bool false, .bool false] 27)) 3 #[.int .i64 0]).alloc (.cells #[.slice A l.length c] 22)
    rwa [World.size_alloc, World.size_alloc] at this
  have hB0 : Below w.heap.size w ((((w.alloc (.cells #[.bool false, .bool false, .bool false, .bool false, .bool false, .bool false] 27)).alloc (.cells #[.bool false, .bool false, .bool false, .bool false, .bool false, .bool false] 27)).alloc (.cells #[.int .i64 0] 3)).alloc (.cells #[.slice A l.length c] 22)) := below_alloc (below_alloc (below_alloc (below_alloc (Below.refl _ _) _) _) _) _
  have b3 : Blk ((((w.alloc (.cells #[.bool false, .bool false, .bool false, .bool false, .bool false, .bool false] 27)).alloc (.cells #[.bool false, .bool false, .bool false, .bool false, .bool false, .bool false] 27)).alloc (.cells #[.int .i64 0] 3)).alloc (.cells #[.slice A l.length c] 22)) (w.heap.size + 1 + 1 + 1) 22 #[.slice A l.length c] := by
    have := Blk.new (((w.alloc (.cells #[.bool false, .bool false, .bool false, .bool false, .bool false, .bool false] 27)).alloc (.cells #[.bool false, .bool false, .bool false, .bool false, .bool false, .bool false] 27)).alloc (.cells #[.int .i64 0] 3)) 22 #[.slice A l.length c]
    rwa [World.size_alloc, World.size_alloc, World.size_alloc] at this
  have hz : ((((w.alloc (.cells #[.bool false, .bool false, .bool false, .bool false, .bool false, .bool false] 27)).alloc (.cells #[.bool false, .bool false, .bool false, .bool false, .bool false, .bool false] 27)).alloc (.cells #[.int .i64 0] 3)).alloc (.cells #[.slice A l.length c] 22)).heap.size = w.heap.size + 4 := by simp
  generalize hW0 : World.alloc _ (.cells #[.slice A l.length c] 22) = W0 at b3 b0 b1 b2 hB0 hz ⊢
  clear hW0
  refine (wpIn_wide (n := 7)).1 ?_
  refine wpIn_rangeFunc_ownH rfl (by omega) (gf := 72) (lb := #[.pointer (some ⟨w.heap.size + 1 + 1 + 1, 0, none⟩)]) rfl trivial (enters_of Tryd.func72 (by kernel_rfl) rfl)
    (known_stops l HS.out A c w HC.out hlen (w.heap.size + 1 + 1 + 1) W0 hB0 (by omega) (b3.cell 0)) belowK_t (belowK_b (by omega)) (Below.refl _ _) (fun _ => rfl)
    (fun pre W => (Blk W w.heap.size 27 (fls []) ∧ Blk W (w.heap.size + 1) 27 (fls pre) ∧ Blk W (w.heap.size + 1 + 1) 3 #[.int .i64 pre.length]) ∧ Below w.heap.size w W)
    (fun _ _ _ => False)
    (OwnFrom.and (Own.from (fun s X Y row hs hg hr => ⟨Blk.own _ _ (fun _ : Unit => _) () X Y row hs.1 hg hr, Blk.own _ _ (fun _ : Unit => _) () X Y row hs.2.1 hg hr, Blk.own _ _ (fun _ : Unit => _) () X Y row hs.2.2 hg hr⟩) _) (ownFrom_below (Nat.le_refl _) (by omega)))
    (fun _ _ _ _ _ hs _ _ => hs)
    ⟨⟨b0, b1, b2⟩, hB0⟩
    (fun x a' W => ∃ Bx, w.heap.size + 2 < Bx ∧ Blk W Bx 132 #[.string (wd x.val), .func (.func (76 + x.val)) #[] #[]] ∧ a' = { tmps := #[.slice A l.length c, undef, .pointer (some ⟨w.heap.size, 0, none⟩), .int .i64 0, .int .i64 0, .pointer (some ⟨w.heap.size + 1, 0, none⟩), .pointer (some ⟨w.heap.size + 1 + 1, 0, none⟩), .pointer (some ⟨Bx, 0, none⟩), .slice A l.length c, .func (.func 72) #[] #[.pointer (some ⟨w.heap.size + 1 + 1 + 1, 0, none⟩)], wv x.val, undef, undef, undef, undef, undef, undef, undef, undef, undef, undef, undef, undef], defers := [] })
    (fun x a' => Own.from (fun s X Y row hs hg hr => by
      obtain ⟨Bx, h1, h2, h3⟩ := hs
      exact ⟨Bx, h1, Blk.own _ _ (fun _ : Unit => _) () X Y row h2 hg hr, h3⟩) _)
    ?assign ?body ?done ?stop
  case assign =>
    rintro lp pre x W K ⟨⟨c0, c1, c2⟩, hB⟩ hK
    simp only [wenc, wv] at hK ⊢
    gi_wp2
    exact hK _ _ ((KeepsOthers.alloc _ _).from _) ((Below.refl _ W).alloc hB.size _) ⟨⟨c0.alloc _, c1.alloc _, c2.alloc _⟩, below_alloc hB _⟩ ⟨W.heap.size, c2.lt, Blk.new W 132 _, rfl⟩
  case body =>
    rintro lp pre x a' W hl hrec ⟨⟨c0, c1, c2⟩, hB⟩ ⟨Bx, hBx, bX, rfl⟩ hlt
    have hat := fun u => at_calls x (w.heap.size + 1) u
    have hX1 : W.cell? ⟨Bx, 1, none⟩ = some (.func (.func (76 + x.val)) #[] #[]) := bX.cell 1
    have hF : ∃ v, W.cell? ⟨w.heap.size + 1, x.val, none⟩ = some v := by
      rw [c1.cell]
      exact ⟨_, Array.getElem?_eq_getElem (by simp [fls])⟩
    obtain ⟨vF, hF⟩ := hF
    have hFf := c1.frozen x.val
    have hN : W.cell? ⟨w.heap.size + 1 + 1, 0, none⟩ = some (.int .i64 pre.length) := c2.cell 0
    have hNf := c2.frozen 0
    have hfin : ∀ v, KeepsFrom W0.heap.size W ((W.setCell ⟨w.heap.size + 1, x.val, none⟩ (.bool true)).setCell ⟨w.heap.size + 1 + 1, 0, none⟩ v) := fun v => ((KeepsOthers.setCell _ _ _).trans (KeepsOthers.setCell _ _ _)).from _
    have hlen2 : (pre.length : Int) < 1000 := by omega
    have FS := fls_snoc pre x
    obtain ⟨k, hk⟩ := x
    have h6 : k = 0 ∨ k = 1 ∨ k = 2 ∨ k = 3 ∨ k = 4 ∨ k = 5 := by omega
    rcases h6 with rfl | rfl | rfl | rfl | rfl | rfl
    all_goals
      have FSH := Aside0.mk FS
      clear FS
      gi_wp2_with fail
      refine ⟨trivial, (CallsIn.inRound lp (callsIn_wide.2 (hat W))).mono ?_⟩
      rintro e w1 ⟨rfl, rfl⟩
      gi_wp2
      refine ⟨hfin _, ((Below.refl w.heap.size W).setCell (p := ⟨w.heap.size + 1, _, none⟩) (by simp) _).setCell (p := ⟨w.heap.size + 1 + 1, 0, none⟩) (by simp; omega) _, ⟨(c0.other (by omega) _ _).other (by omega) _ _, ?_, ?_⟩, (hB.setCell (p := ⟨w.heap.size + 1, _, none⟩) (by simp) _).setCell (p := ⟨w.heap.size + 1 + 1, 0, none⟩) (by simp; omega) _⟩
      · rw [FSH.out]
        exact (c1.set _ _).other (by omega) _ _
      · rw [len_snoc]
        exact (c2.other (by omega) _ _).set 0 _
  case done =>
    rintro D ys W hD rfl ⟨⟨c0, c1, c2⟩, hB⟩ hK
    have hDs : w.heap.size + 3 < D := by omega
    have hDl : D < W.heap.size := (Array.getElem?_eq_some_iff.1 hK).1
    generalize hys : knw l = ys at c1 c2 HR ⊢
    have HYS := Aside0.mk hys
    clear hys hlen
    have q0 : W.cell? ⟨w.heap.size + 1, 0, none⟩ = some (.bool (decide ((0 : Fin 6) ∈ ys))) := c1.cell 0
    have q1 : W.cell? ⟨w.heap.size + 1, 1, none⟩ = some (.bool (decide ((1 : Fin 6) ∈ ys))) := c1.cell 1
    have q2 : W.cell? ⟨w.heap.size + 1, 2, none⟩ = some (.bool (decide ((2 : Fin 6) ∈ ys))) := c1.cell 2
    have q3 : W.cell? ⟨w.heap.size + 1, 3, none⟩ = some (.bool (decide ((3 : Fin 6) ∈ ys))) := c1.cell 3
    have q4 : W.cell? ⟨w.heap.size + 1, 4, none⟩ = some (.bool (decide ((4 : Fin 6) ∈ ys))) := c1.cell 4
    have q5 : W.cell? ⟨w.heap.size + 1, 5, none⟩ = some (.bool (decide ((5 : Fin 6) ∈ ys))) := c1.cell 5
    have qn : W.cell? ⟨w.heap.size + 1 + 1, 0, none⟩ = some (.int .i64 ys.length) := c2.cell 0
    have hfl : fls ys = #[.bool (decide ((0 : Fin 6) ∈ ys)), .bool (decide ((1 : Fin 6) ∈ ys)), .bool (decide ((2 : Fin 6) ∈ ys)), .bool (decide ((3 : Fin 6) ∈ ys)), .bool (decide ((4 : Fin 6) ∈ ys)), .bool (decide ((5 : Fin 6) ∈ ys))] := rfl
    have HFL := Aside0.mk hfl
    clear hfl
    generalize decide ((0 : Fin 6) ∈ ys) = x0 at q0 HR HFL
    generalize decide ((1 : Fin 6) ∈ ys) = x1 at q1 HR HFL
    generalize decide ((2 : Fin 6) ∈ ys) = x2 at q2 HR HFL
    generalize decide ((3 : Fin 6) ∈ ys) = x3 at q3 HR HFL
    generalize decide ((4 : Fin 6) ∈ ys) = x4 at q4 HR HFL
    generalize decide ((5 : Fin 6) ∈ ys) = x5 at q5 HR HFL
    go_wp2_with fail
    refine (flags_Right.calls _ _ _ _ _ _ _ _ HR.out).mono ?_
    rintro e w2 ⟨rfl, hb2⟩
    have hK2 : w2.heap[D]? = some (.deferred (some [])) := (hb2.block D hDl).trans hK
    have d0 := c0.below hb2
    have d1 := c1.below hb2
    have d2 := c2.below hb2
    have hB2 : Below w.heap.size w w2 := hB.trans (hb2.mono hB.size)
    have hD2 : D < w2.heap.size := (Array.getElem?_eq_some_iff.1 hK2).1
    replace q0 := (hb2.cell (p := ⟨w.heap.size + 1, 0, none⟩) c1.lt).trans q0
    replace q1 := (hb2.cell (p := ⟨w.heap.size + 1, 1, none⟩) c1.lt).trans q1
    replace q2 := (hb2.cell (p := ⟨w.heap.size + 1, 2, none⟩) c1.lt).trans q2
    replace q3 := (hb2.cell (p := ⟨w.heap.size + 1, 3, none⟩) c1.lt).trans q3
    replace q4 := (hb2.cell (p := ⟨w.heap.size + 1, 4, none⟩) c1.lt).trans q4
    replace q5 := (hb2.cell (p := ⟨w.heap.size + 1, 5, none⟩) c1.lt).trans q5
    replace qn := (hb2.cell (p := ⟨w.heap.size + 1 + 1, 0, none⟩) c2.lt).trans qn
    have z0 : w2.cell? ⟨w.heap.size, 0, none⟩ = some (.bool false) := d0.cell 0
    have z1 : w2.cell? ⟨w.heap.size, 1, none⟩ = some (.bool false) := d0.cell 1
    have z2 : w2.cell? ⟨w.heap.size, 2, none⟩ = some (.bool false) := d0.cell 2
    have z3 : w2.cell? ⟨w.heap.size, 3, none⟩ = some (.bool false) := d0.cell 3
    have z4 : w2.cell? ⟨w.heap.size, 4, none⟩ = some (.bool false) := d0.cell 4
    have z5 : w2.cell? ⟨w.heap.size, 5, none⟩ = some (.bool false) := d0.cell 5
    have y0 : w2.frozen? ⟨w.heap.size, 0, none⟩ = false := d0.frozen 0
    have y1 : w2.frozen? ⟨w.heap.size, 1, none⟩ = false := d0.frozen 1
    have y2 : w2.frozen? ⟨w.heap.size, 2, none⟩ = false := d0.frozen 2
    have y3 : w2.frozen? ⟨w.heap.size, 3, none⟩ = false := d0.frozen 3
    have y4 : w2.frozen? ⟨w.heap.size, 4, none⟩ = false := d0.frozen 4
    have y5 : w2.frozen? ⟨w.heap.size, 5, none⟩ = false := d0.frozen 5
    have HD0 := Aside0.mk d0
    have HK2 := Aside0.mk hK2
    clear c0 c1 c2 hb2 d1 d2 d0 hK hK2
    cases ok
    · go_wp2
      refine read_end w _ D false false false false false false 0 110 _ _ _ _ _ _ _ _ _ _ _ _ _ _ _ _ _ _ _ _ ?_ ?_ (by omega) ?_ _ ?_
      · exact six_set HD0.out _ _ _ _ _ _
      · exact (six_keeps _ _ _ _ _ _ _ _).same D _ HK2.out rfl
      · exact six_below hB2 (Nat.le_refl _) _ _ _ _ _ _
      · simp [fls]
    · go_wp2
      go_region
      go_wp2
      refine read_end w _ D x0 x1 x2 x3 x4 x5 ys.length 0 _ _ _ _ _ _ _ _ _ _ _ _ _ _ _ _ _ _ _ _ ?_ ?_ (by omega) ?_ _ ?_
      · exact (six_set HD0.out _ _ _ _ _ _).drew
      · exact heap_drew ((six_keeps _ _ _ _ _ _ _ _).same D _ HK2.out rfl)
      · exact (six_below hB2 (Nat.le_refl _) _ _ _ _ _ _).drew
      · rw [HYS.out, HFL.out]
  case stop =>
    rintro D cc pre W hD hpre h _
    exact h.elim
/-- The flags of the words that a list begins with, how many words they are, whether they exclude each other. -/
def flags_Read.f (l0 : List ByteArray) : Option (Bool × Bool × Bool × Bool × Bool × Bool × Int × Int) :=
  if l0.length ≤ 1000 ∧ ∀ s ∈ l0, s.size ≤ 1000 then (flags_Right.f (decide ((0 : Fin 6) ∈ knw l0)) (decide ((1 : Fin 6) ∈ knw l0)) (decide ((2 : Fin 6) ∈ knw l0)) (decide ((3 : Fin 6) ∈ knw l0)) (decide ((4 : Fin 6) ∈ knw l0)) (decide ((5 : Fin 6) ∈ knw l0))).map fun ok => if ok = true then ((decide ((0 : Fin 6) ∈ knw l0)), (decide ((1 : Fin 6) ∈ knw l0)), (decide ((2 : Fin 6) ∈ knw l0)), (decide ((3 : Fin 6) ∈ knw l0)), (decide ((4 : Fin 6) ∈ knw l0)), (decide ((5 : Fin 6) ∈ knw l0)), ((knw l0).length : Int), 0) else (false, false, false, false, false, false, 0, 110) else none
theorem flags_Read.calls (A0 : Option Addr) (c0 : Nat) (l0 : List ByteArray) (r1 r2 r3 r4 r5 r6 : Bool) (r7 r8 : Int) (w : World) (hr0 : Kd.C Kd.string w A0 l0.length l0) (_hc0 : l0.length ≤ c0) (h : flags_Read.f l0 = some (r1, r2, r3, r4, r5, r6, r7, r8)) :
    Calls Tryd.prog 47 #[.slice A0 l0.length c0] w fun e w' => e = .returned (.tuple #[.agg #[.bool r1, .bool r2, .bool r3, .bool r4, .bool r5, .bool r6], .int .i64 r7, .int .i64 r8]) ∧ Below w.heap.size w w' := by
  unfold flags_Read.f at h
  by_cases hc : l0.length ≤ 1000 ∧ ∀ s ∈ l0, s.size ≤ 1000
  · rw [if_pos hc] at h
    obtain ⟨ok, hok, h⟩ := Option.map_eq_some_iff.mp h
    refine (read_calls l0 hc.2 A0 c0 w hr0 hc.1 ok hok).mono ?_
    rintro e w' ⟨rfl, hb⟩
    refine ⟨?_, hb⟩
    cases ok
    · rw [if_neg (by simp)] at h ⊢
      simp only [Prod.mk.injEq] at h
      obtain ⟨rfl, rfl, rfl, rfl, rfl, rfl, rfl, rfl⟩ := h
      simp [fls]
    · rw [if_pos rfl] at h ⊢
      simp only [Prod.mk.injEq] at h
      obtain ⟨rfl, rfl, rfl, rfl, rfl, rfl, rfl, rfl⟩ := h
      rfl
  · rw [if_neg hc] at h
    cases h
end Go.Proofs.YtegmbgjolnbgpaaDoor.P
