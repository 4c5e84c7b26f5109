/- slices.IsSortedFunc at entries with compare: a call of it tells whether no entry is less than the one ahead of it. algebra.Right: whether a list is a set's. slices.IndexFunc and ContainsFunc at lists of entries, with check's test: is there a list that is no set's? The package's two errors in memory; algebra.check: whether sets are right. errors.Is at no error. -/
import Derived.Test.YtidhbpfkiapcjaaDoorMP
import Derived.StillTailTactics
/-! slices.IsSortedFunc at entries with compare: a call of it tells whether no entry is less than the one ahead of it. -/
section
namespace Go.Proofs.YtidhbpfkiapcjaaDoor.P
open Go.RowKit Go.Lib Go.Proofs.YtidhbpfkiapcjaaDoorW.PrintWords Go.Proofs.YtidhbpfkiapcjaaDoorW.PrintLast Go.Proofs.YtidhbpfkiapcjaaDoorW.PrintMore Go.Proofs.YtidhbpfkiapcjaaDoor.Pure

/-- From i down to 1: no entry is less than the one ahead of it. -/
def downS (l : List S36) : Nat → Bool
  | 0 => true
  | i + 1 => !lessE (rd_T36 l ((i + 1 : Nat) : Int)) (rd_T36 l (i : Int)) && downS l i

set_option maxHeartbeats 8000000 in
set_option maxRecDepth 100000 in
theorem sorted_calls (l : List S36) (A : Option Addr) (c : Nat) (w : World) (hC : Kd.C k36 w A l.length l) (hl : l.length < maxLen) :
    Calls Tryd.prog 34 #[.slice A l.length c, .func (.func 35) #[] #[]] w fun e w' => e = .returned (.bool (downS l (l.length - 1))) ∧ Below w.heap.size w w' := by
  have HC := Aside0.mk hC
  clear hC
  obtain ⟨n, hn⟩ : ∃ n, n = l.length := ⟨_, rfl⟩
  have HN := Aside0.mk hn
  rw [← hn] at hl ⊢
  clear hn
  unfold maxLen at hl
  go_enter Tryd.func34, Tryd.ntmps34
  go_wp2_with fail
  go_loopg [5] n (fun gg v5 wr => ∃ i : Int, v5 = .int .i64 i ∧ -1 ≤ i ∧ i < n ∧ i.toNat ≤ gg ∧ Aside0 (downS l (n - 1) = downS l i.toNat) ∧ Aside0 (Below w.heap.size w wr))
  case atStart => exact ⟨(n : Int) - 1, by go_num, by omega, by omega, by omega, ⟨by congr 1; omega⟩, ⟨Below.refl _ _⟩⟩
  case round =>
    obtain ⟨i, rfl, hi0, hin, hg, HD, HB⟩ := hrel
    by_cases hp : 0 < i
    · have hcl := Kd.C_below HC.out HB.out
      rw [← HN.out] at hcl
      obtain ⟨ad, e, hx, hx2⟩ := at_T36 hcl i (by omega) hin
      obtain ⟨j, hj⟩ : ∃ j, j = i - 1 := ⟨_, rfl⟩
      have hj0 : 0 ≤ j := by omega
      have hj1 : j < n := by omega
      obtain ⟨ad', e', hy, hy2⟩ := at_T36 hcl j hj0 hj1
      rw [e] at e'
      obtain rfl := Option.some.inj e'
      cases e
      have hwi : IntKind.i64.wrap (i - 1) = j := by rw [hj]; simp [IntKind.wrap, IntKind.bits, IntKind.signed]; omega
      have hi3 : 0 ≤ i := by omega
      have HSTEP : Aside0 (downS l i.toNat = (!lessE (rd_T36 l i) (rd_T36 l j) && downS l j.toNat)) := by
        obtain ⟨m, rfl⟩ : ∃ m : Nat, i = (m : Int) + 1 := ⟨(i - 1).toNat, by omega⟩
        obtain rfl : j = (m : Int) := by omega
        rw [show ((m : Int) + 1).toNat = m + 1 by omega, Int.toNat_natCast]
        exact ⟨rfl⟩
      have HJ := Aside0.mk hj
      clear hcl hj
      generalize rd_T36 l i = x at hx hx2 HSTEP
      generalize rd_T36 l j = y at hy hy2 HSTEP
      go_upto_region 4 with fail
      go_still_tail 10, (by kernel_rfl)
      change wpList _ _ _ _ _ wr.drew
      have HB2 := Aside0.mk (HB.out.drew)
      replace hx : wr.drew.cell? _ = _ := hx
      replace hx2 : wr.drew.cell? _ = _ := hx2
      replace hy : wr.drew.cell? _ = _ := hy
      replace hy2 : wr.drew.cell? _ = _ := hy2
      clear HB
      generalize wr.drew = w2 at HB2 hx hx2 hy hy2 ⊢
      go_wp2_with fail
      refine (algebra_compare.calls 5 x.f0 x.f1 y.f0 y.f1 _ w2 (compare_own x y)).mono ?_
      rintro e w3 ⟨rfl, b3⟩
      have HB3 := Aside0.mk (HB2.out.trans (b3.mono HB2.out.size))
      have hneg := cmp_neg x y
      clear b3
      generalize cmpE x y = cc at hneg
      cases hlt : lessE x y with
      | true =>
        rw [hlt] at hneg HSTEP
        have hcc : cc < 0 := of_decide_eq_true hneg
        have HS := Aside0.mk HSTEP.out
        clear hneg HSTEP
        go_wp2
        go_ret
        exact ⟨by rw [HD.out, HS.out]; rfl, HB3.out⟩
      | false =>
        rw [hlt] at hneg HSTEP
        have hcc : ¬ cc < 0 := of_decide_eq_false hneg
        have HS := Aside0.mk HSTEP.out
        clear hneg HSTEP
        go_wp2
        go_roundg (i.toNat - 1)
        case measure => omega
        case rel => exact ⟨j, by go_num, by omega, hj1, by have := HJ.out; omega, ⟨by rw [HD.out, HS.out]; rfl⟩, HB3⟩
    · go_wp2_with fail
      go_ret
      exact ⟨by rw [HD.out, show i.toNat = 0 by omega]; rfl, HB.out⟩
end Go.Proofs.YtidhbpfkiapcjaaDoor.P
end
/-! algebra.Right: whether a list is a set's. -/
section
namespace Go.Proofs.YtidhbpfkiapcjaaDoor.P
open Go.RowKit Go.Lib Go.Proofs.YtidhbpfkiapcjaaDoorW.PrintWords Go.Proofs.YtidhbpfkiapcjaaDoorW.PrintLast Go.Proofs.YtidhbpfkiapcjaaDoorW.PrintMore Go.Proofs.YtidhbpfkiapcjaaDoor.Pure
attribute [local go_sem] Oper.semAt_some

/-- Is a list a set's? -/
def rightB (l : List S36) : Bool := decide ((tabT l).length = l.length) && downS l (l.length - 1)

set_option maxHeartbeats 8000000 in
set_option maxRecDepth 100000 in
theorem right_calls (l : List S36) (A : Option Addr) (c : Nat) (w : World) (hC : Kd.C k36 w A l.length l) (hl : l.length < maxLen) (hg : ∀ e ∈ l, GoodE e) :
    Calls Tryd.prog 21 #[.slice A l.length c] w fun e w' => e = .returned (.bool (rightB l)) ∧ Below w.heap.size w w' := by
  have HC := Aside0.mk hC
  have HG := Aside0.mk hg
  have HL := Aside0.mk hl
  have HR : Aside0 (rightB l = (decide ((tabT l).length = l.length) && downS l (l.length - 1))) := ⟨rfl⟩
  have ht := table_calls l A c w hC hl hg
  clear hC hg hl
  generalize rightB l = r at HR ⊢
  go_enter Tryd.func21, Tryd.ntmps21
  go_wp2_with fail
  refine ht.mono ?_
  rintro e w1 ⟨b, rfl, hb, ho, b1⟩
  have HO := Aside0.mk ho
  have B1 := Aside0.mk b1
  have HS := Aside0.mk (sorted_calls l A c w1 (Kd.C_below HC.out b1) HL.out)
  clear ho b1 ht
  generalize hds : downS l (l.length - 1) = ds at HR HS
  by_cases hlen : (tabT l).length = l.length
  · have hlen2 : ((tabT l).length : Int) = (l.length : Int) := by omega
    rw [decide_eq_true hlen] at HR
    go_wp2_with (first
      | (at_len; refine wpList_len_ownT _ rfl _ 49 rfl 9 2 Tryd.underlying49 b (tabT l) rfl HO.out ?_))
    refine HS.out.mono ?_
    rintro e w2 ⟨rfl, b2⟩
    have B2 := Aside0.mk (B1.out.trans (b2.mono B1.out.size))
    clear b2
    go_wp2
    go_ret
    exact ⟨by rw [HR.out]; rfl, B2.out⟩
  · have hlen2 : ¬ ((tabT l).length : Int) = (l.length : Int) := by omega
    rw [decide_eq_false hlen] at HR
    go_wp2_with (first
      | (at_len; refine wpList_len_ownT _ rfl _ 49 rfl 9 2 Tryd.underlying49 b (tabT l) rfl HO.out ?_))
    go_ret
    exact ⟨by rw [HR.out]; rfl, B1.out⟩
end Go.Proofs.YtidhbpfkiapcjaaDoor.P
end
/-! slices.IndexFunc and ContainsFunc at lists of entries, with check's test: is there a list that is no set's? -/
section
namespace Go.Proofs.YtidhbpfkiapcjaaDoor.P
open Go.RowKit Go.Lib Go.Proofs.YtidhbpfkiapcjaaDoorW.PrintWords Go.Proofs.YtidhbpfkiapcjaaDoorW.PrintLast Go.Proofs.YtidhbpfkiapcjaaDoorW.PrintMore Go.Proofs.YtidhbpfkiapcjaaDoor.Pure
attribute [local go_sem] Oper.semAt_some

/-- What a list of lists must be. -/
def GoodL (l : List (List S36)) : Prop := l.length < maxLen ∧ ∀ x ∈ l, x.length < maxLen ∧ ∀ e ∈ x, GoodE e
theorem rd3_get {l : List (List S36)} {j : Nat} (h : j < l.length) : rd_L3 l (j : Int) = l[j] := by
  unfold rd_L3
  rw [Int.toNat_natCast, List.getD_eq_getElem?_getD, List.getElem?_eq_getElem h]
  rfl
theorem any_take (l : List (List S36)) (i : Nat) (h : i < l.length) : (l.take (i + 1)).any (fun x => !rightB x) = ((l.take i).any (fun x => !rightB x) || !rightB l[i]) := by
  rw [List.take_succ_eq_append_getElem h, List.any_append]
  simp
theorem any_of_take (l : List (List S36)) (i : Nat) (h : (l.take i).any (fun x => !rightB x) = true) : l.any (fun x => !rightB x) = true := by
  rw [List.any_eq_true] at h ⊢
  obtain ⟨x, hx, hp⟩ := h
  exact ⟨x, List.mem_of_mem_take hx, hp⟩

set_option maxHeartbeats 8000000 in
set_option maxRecDepth 100000 in
theorem lit_calls (l : List S36) (A : Option Addr) (c : Nat) (w : World) (hC : Kd.C k36 w A l.length l) (hl : l.length < maxLen) (hg : ∀ e ∈ l, GoodE e) :
    Calls Tryd.prog 45 #[.slice A l.length c] w fun e w' => e = .returned (.bool (!rightB l)) ∧ Below w.heap.size w w' := by
  have hr := right_calls l A c w hC hl hg
  clear hC hg hl
  go_enter Tryd.func45, Tryd.ntmps45
  go_wp2_with fail
  refine hr.mono ?_
  rintro e w1 ⟨rfl, b1⟩
  have B1 := Aside0.mk b1
  clear b1 hr
  go_wp2
  go_ret
  exact ⟨rfl, B1.out⟩

set_option maxHeartbeats 8000000 in
set_option maxRecDepth 100000 in
theorem idx_calls (l : List (List S36)) (A : Option Addr) (c : Nat) (w : World) (hC : Kd.C (Kd.slice 36 k36) w A l.length l) (hg : GoodL l) :
    Calls Tryd.prog 59 #[.slice A l.length c, .func (.func 45) #[] #[]] w fun e w' => ∃ r : Int, e = .returned (.int .i64 r) ∧ decide (0 ≤ r) = l.any (fun x => !rightB x) ∧ Below w.heap.size w w' := by
  obtain ⟨hl, hg⟩ := hg
  have HC := Aside0.mk hC
  have HG := Aside0.mk hg
  clear hC hg
  obtain ⟨n, hn⟩ : ∃ n, n = l.length := ⟨_, rfl⟩
  have HN := Aside0.mk hn
  rw [← hn] at hl ⊢
  clear hn
  unfold maxLen at hl
  go_enter Tryd.func59, Tryd.ntmps59
  go_wp2_with fail
  go_loopg [8] n (fun gg v8 wr => ∃ i : Nat, v8 = .int .i64 i ∧ i ≤ n ∧ n - i ≤ gg ∧ Aside0 ((l.take i).any (fun x => !rightB x) = false) ∧ Aside0 (Below w.heap.size w wr))
  case atStart => exact ⟨0, rfl, by omega, by omega, ⟨rfl⟩, ⟨Below.refl _ _⟩⟩
  case round =>
    obtain ⟨i, rfl, hi, hg, HA, HB⟩ := hrel
    by_cases hin : i < n
    · have hi1 : (i : Int) < (n : Int) := by omega
      have hil : i < l.length := by have := HN.out; omega
      have hcl := Kd.C_below HC.out HB.out
      rw [← HN.out] at hcl
      obtain ⟨ad, A0, c0, e, hx, hc0, hC0⟩ := at_L3 hcl (i : Int) (by omega) hi1
      cases e
      rw [Int.toNat_natCast] at hx
      have hG := HG.out l[i] (List.getElem_mem hil)
      have HT := Aside0.mk (any_take l i hil)
      have HO := Aside0.mk (any_of_take l (i + 1))
      rw [rd3_get hil] at hx hC0
      clear hcl hc0
      generalize l[i] = x at hx hC0 hG HT
      have hcall := lit_calls x A0 c0 wr hC0 hG.1 hG.2
      clear hC0 hG
      go_wp2_with fail
      refine hcall.mono ?_
      rintro e w3 ⟨rfl, b3⟩
      have HB3 := Aside0.mk (HB.out.trans (b3.mono HB.out.size))
      clear b3 hcall
      rw [HA.out] at HT
      generalize rightB x = rx at HT ⊢
      cases rx with
      | true =>
        go_wp2
        go_roundg (n - (i + 1))
        case measure => omega
        case rel => exact ⟨i + 1, by go_num, by omega, by omega, ⟨by rw [HT.out]; rfl⟩, HB3⟩
      | false =>
        go_wp2
        go_ret
        exact ⟨_, rfl, by rw [HO.out (by rw [HT.out]; rfl)]; simp, HB3.out⟩
    · have hi1 : ¬ (i : Int) < (n : Int) := by omega
      go_wp2_with fail
      go_ret
      refine ⟨_, rfl, ?_, HB.out⟩
      have ha := HA.out
      rw [show i = l.length by have := HN.out; omega, List.take_length] at ha
      rw [ha]
      rfl

set_option maxHeartbeats 8000000 in
set_option maxRecDepth 100000 in
theorem has_calls (l : List (List S36)) (A : Option Addr) (c : Nat) (w : World) (hC : Kd.C (Kd.slice 36 k36) w A l.length l) (hg : GoodL l) :
    Calls Tryd.prog 44 #[.slice A l.length c, .func (.func 45) #[] #[]] w fun e w' => e = .returned (.bool (l.any (fun x => !rightB x))) ∧ Below w.heap.size w w' := by
  have hr := idx_calls l A c w hC hg
  clear hC hg
  go_enter Tryd.func44, Tryd.ntmps44
  go_wp2_with fail
  refine hr.mono ?_
  rintro e w1 ⟨r, rfl, h0, b1⟩
  have B1 := Aside0.mk b1
  have H0 := Aside0.mk h0
  clear b1 hr h0
  by_cases hr : 0 ≤ r
  · go_wp2
    go_ret
    exact ⟨by rw [← H0.out]; simp [hr], B1.out⟩
  · go_wp2
    go_ret
    exact ⟨by rw [← H0.out]; simp, B1.out⟩
end Go.Proofs.YtidhbpfkiapcjaaDoor.P
end
/-! The package's two errors in memory; algebra.check: whether sets are right. -/
section
namespace Go.Proofs.YtidhbpfkiapcjaaDoor.P
open Go.RowKit Go.Lib Go.Proofs.YtidhbpfkiapcjaaDoorW.PrintWords Go.Proofs.YtidhbpfkiapcjaaDoorW.PrintLast Go.Proofs.YtidhbpfkiapcjaaDoorW.PrintMore Go.Proofs.YtidhbpfkiapcjaaDoor.Pure
attribute [local go_sem] Oper.semAt_some

/-- An error made by errors.New, by where it lies. -/
def erV (p : Addr) : Value := .iface 125 (.pointer (some p))
/-- The two variables hold errors that lie at two places. -/
structure G (p q : Addr) (w : World) : Prop where
  ne : p ≠ q
  es : w.cell? ⟨0, 0, none⟩ = some (erV p)
  eo : w.cell? ⟨1, 0, none⟩ = some (erV q)
theorem G.below {p q : Addr} {w w' : World} {B : Nat} (h : G p q w) (hb : Below B w w') (hB : 1 < B) : G p q w' :=
  ⟨h.ne, (hb.cell (by show 0 < B; omega)).trans h.es, (hb.cell (by show 1 < B; omega)).trans h.eo⟩
theorem G.lt {p q : Addr} {w : World} (h : G p q w) : 1 < w.heap.size := World.block_lt_of_cell? w _ h.eo
theorem G.on {p q : Addr} {w w' : World} (h : G p q w) (hb : Below w.heap.size w w') : G p q w' := h.below hb h.lt

/-- Are the sets right? -/
def setsB (l : List (List S36)) : Bool := decide (0 < l.length) && !l.any (fun x => !rightB x)

set_option maxHeartbeats 8000000 in
set_option maxRecDepth 100000 in
theorem check_calls (l : List (List S36)) (A : Option Addr) (c : Nat) (p q : Addr) (w : World) (hG : G p q w) (hC : Kd.C (Kd.slice 36 k36) w A l.length l) (hg : GoodL l) :
    Calls Tryd.prog 28 #[.slice A l.length c] w fun e w' => e = .returned (if setsB l = true then .nilIface else erV p) ∧ Below w.heap.size w w' := by
  have HG := Aside0.mk hG
  have hr := has_calls l A c w hC hg
  have hS : Aside0 (setsB l = (decide (0 < l.length) && !l.any (fun x => !rightB x))) := ⟨rfl⟩
  clear hG hC hg
  obtain ⟨n, hn⟩ : ∃ n, n = l.length := ⟨_, rfl⟩
  rw [← hn] at hr hS ⊢
  clear hn
  cases hany : l.any (fun x => !rightB x) with
  | true =>
    rw [hany] at hr hS
    rw [show setsB l = false by rw [hS.out]; simp, if_neg (by simp)]
    clear hS hany
    go_enter Tryd.func28, Tryd.ntmps28
    by_cases h0 : (n : Int) = 0
    · have hes := HG.out.es
      go_wp2_with fail
      go_ret
      exact ⟨rfl, Below.refl _ _⟩
    · go_wp2_with fail
      refine hr.mono ?_
      rintro e w1 ⟨rfl, b1⟩
      have B1 := Aside0.mk b1
      have hes := (HG.out.on b1).es
      clear b1 hr
      go_wp2
      go_ret
      exact ⟨rfl, B1.out⟩
  | false =>
    rw [hany] at hr hS
    by_cases h0 : (n : Int) = 0
    · rw [show setsB l = false by rw [hS.out, decide_eq_false (by omega)]; rfl, if_neg (by simp)]
      clear hS hany
      go_enter Tryd.func28, Tryd.ntmps28
      have hes := HG.out.es
      go_wp2_with fail
      go_ret
      exact ⟨rfl, Below.refl _ _⟩
    · rw [show setsB l = true by rw [hS.out, decide_eq_true (by omega)]; rfl, if_pos rfl]
      clear hS hany
      go_enter Tryd.func28, Tryd.ntmps28
      go_wp2_with fail
      refine hr.mono ?_
      rintro e w1 ⟨rfl, b1⟩
      have B1 := Aside0.mk b1
      clear b1 hr
      go_wp2
      go_ret
      exact ⟨rfl, B1.out⟩
end Go.Proofs.YtidhbpfkiapcjaaDoor.P
end
/-! errors.Is at no error. -/
section
namespace Go.Proofs.YtidhbpfkiapcjaaDoor.P
open Go.RowKit Go.Lib Go.Proofs.YtidhbpfkiapcjaaDoorW.PrintWords Go.Proofs.YtidhbpfkiapcjaaDoorW.PrintLast Go.Proofs.YtidhbpfkiapcjaaDoorW.PrintMore Go.Proofs.YtidhbpfkiapcjaaDoor.Pure
attribute [local go_sem] Oper.semAt_some
set_option maxRecDepth 100000 in
theorem is_nil (p : Addr) (w : World) : Calls Tryd.prog 42 #[.nilIface, .iface 125 (.pointer (some p))] w fun e w' => e = .returned (.bool false) ∧ w' = w := by
  have hq : (binOp .eql 42 .nilIface (.iface 125 (.pointer (some p)))).run Tryd.prog w = .ok (.bool false) w := by first | rfl | kernel_rfl | (simp [binOp]; done)
  go_enter Tryd.func42, Tryd.ntmps42
  go_wp2_with fail
  go_ret
  exact ⟨rfl, rfl⟩
end Go.Proofs.YtidhbpfkiapcjaaDoor.P
end
