/- command.Parse, the way through the table. Conditions: each theorem names its own. -/
import Derived.Test.YtegmbgjolnbgpaaDoorCM
namespace Go.Proofs.YtegmbgjolnbgpaaDoor.P
open Go.RowKit Go.Shelf Go.Proofs.YtegmbgjolnbgpaaDoorW.PrintWords Go.Proofs.YtegmbgjolnbgpaaDoorW.PrintLast Go.Proofs.YtegmbgjolnbgpaaDoorW.PrintMore
attribute [local go_sem] Oper.semAt_some
set_option linter.unusedSimpArgs false

theorem RK.sets {m b T : Nat} {v : Value} {l : List ByteArray} (hT : T ≠ 9) : ∀ (vs : List Value) (o : Nat) (w : World) (cs : Array Value), RK w m v l → Blk w b T cs → RK (w.setCells b o vs) m v l
  | [], _, _, _, h, _ => h
  | x :: vs, o, w, cs, h, hB => by
    rw [World.setCells]
    exact RK.sets hT vs (o + 1) _ _ (h.set hB hT o x) (hB.set o x)
theorem RE.sets {m b T : Nat} {v : Value} {l : List S43} (hT : T ≠ 43) : ∀ (vs : List Value) (o : Nat) (w : World) (cs : Array Value), RE w m v l → Blk w b T cs → RE (w.setCells b o vs) m v l
  | [], _, _, _, h, _ => h
  | x :: vs, o, w, cs, h, hB => by
    rw [World.setCells]
    exact RE.sets hT vs (o + 1) _ _ (h.set hB hT o x) (hB.set o x)
theorem RW.sets {m b T : Nat} {v : Value} {l : List Int} (hT : T ≠ 2) : ∀ (vs : List Value) (o : Nat) (w : World) (cs : Array Value), RW w m v l → Blk w b T cs → RW (w.setCells b o vs) m v l
  | [], _, _, _, h, _ => h
  | x :: vs, o, w, cs, h, hB => by
    rw [World.setCells]
    exact RW.sets hT vs (o + 1) _ _ (h.set hB hT o x) (hB.set o x)
theorem Rd.new {w W : World} {A : Option Addr} {n : Nat} {l : List ByteArray} (hb : Below w.heap.size w W) (hl : ∀ x ∈ l, x.size ≤ 1000) (hf : l.length ≤ 400) (hn : l.length ≤ n) (hC : Kd.C Kd.string w A l.length l) :
    Rd w (W.alloc (.cells (rdCells zCm nilS nilS nilS (.slice A l.length n)) 51)) W.heap.size zCm l :=
  ⟨hb.trans ((below_box W _).mono hb.size), hb.size, hl, ⟨by show l.length + 0 ≤ 500; omega, by show l.length + 0 ≤ 500; omega, Nat.zero_le _⟩, nilS, nilS, nilS, A, n, Blk.new W _ _, hn, hC, Kd.R_nil _ _ _ _ _, Kd.R_nil _ _ _ _ _, Kd.R_nil _ _ _ _ _⟩
/-- What the walk keeps as far as the table's row. -/
structure Pa (w : World) (b : Nat) (c : Cm) (l : List ByteArray) (W : World) : Prop where
  bel : Below w.heap.size w W
  out : Blk W w.heap.size 35 (cmCells zCm nilS nilS nilS)
  rd : Rd w W b c l
  ne : w.heap.size < b
theorem Pa.below {w : World} {b : Nat} {c : Cm} {l : List ByteArray} {W W' : World} (h : Pa w b c l W) (hb : Below W.heap.size W W') : Pa w b c l W' := ⟨h.bel.trans (hb.mono h.bel.size), h.out.below hb, h.rd.below hb, h.ne⟩
theorem Pa.name {w : World} {b : Nat} {c : Cm} {l : List ByteArray} {W : World} (h : Pa w b c l W) : W.cell? ⟨b, 0, none⟩ = some (.string c.name) := by
  obtain ⟨vk, ve, vw, A, n, X⟩ := h.rd.open_
  exact X.blk.cell 0
theorem Pa.other {w : World} {b : Nat} {c : Cm} {l : List ByteArray} {W : World} (h : Pa w b c l W) {B : Nat} {cs : Array Value} (hB : Blk W B 54 cs) (hne : b < B) (j : Nat) (u : Value) : Pa w b c l (W.setCell ⟨B, j, none⟩ u) :=
  ⟨h.bel.setCell (p := ⟨B, j, none⟩) (Nat.le_of_lt (Nat.lt_trans h.ne hne)) u, h.out.other (Nat.ne_of_lt (Nat.lt_trans h.ne hne)) j u, h.rd.other hB (Nat.le_of_lt (Nat.lt_trans h.ne hne)) (Nat.ne_of_lt hne) (by decide) (by decide) (by decide) j u, h.ne⟩
def nmz : Array Value := #[.int .i64 0, .int .i64 0, .bool false, .nilFunc]
theorem fin5 {w : World} {b : Nat} {c : Cm} {l : List ByteArray} {W : World} {xb : Nat} (hB : Blk W xb 54 nmz) (P : Pa w b c l W) (hx : b < xb) (v0 v1 v2 v3 : Value) :
    Blk ((((W.setCell ⟨xb, 0, none⟩ v0).setCell ⟨xb, 1, none⟩ v1).setCell ⟨xb, 2, none⟩ v2).setCell ⟨xb, 3, none⟩ v3) xb 54 #[v0, v1, v2, v3] ∧ Pa w b c l ((((W.setCell ⟨xb, 0, none⟩ v0).setCell ⟨xb, 1, none⟩ v1).setCell ⟨xb, 2, none⟩ v2).setCell ⟨xb, 3, none⟩ v3) ∧ b < xb :=
  ⟨(((hB.set 0 v0).set 1 v1).set 2 v2).set 3 v3, (((P.other hB hx 0 v0).other (hB.set 0 v0) hx 1 v1).other ((hB.set 0 v0).set 1 v1) hx 2 v2).other (((hB.set 0 v0).set 1 v1).set 2 v2) hx 3 v3, hx⟩
theorem cf_keys (args : Array Value) (W : World) : (callFunc 25 args).run Tryd.prog W = .ok (.enter 25 args) W := by kernel_rfl
theorem cf_scan (args : Array Value) (W : World) : (callFunc 26 args).run Tryd.prog W = .ok (.enter 26 args) W := by kernel_rfl
theorem cf_object (args : Array Value) (W : World) : (callFunc 27 args).run Tryd.prog W = .ok (.enter 27 args) W := by kernel_rfl
theorem cf_zadd (args : Array Value) (W : World) : (callFunc 28 args).run Tryd.prog W = .ok (.enter 28 args) W := by kernel_rfl
theorem cf_zincrby (args : Array Value) (W : World) : (callFunc 29 args).run Tryd.prog W = .ok (.enter 29 args) W := by kernel_rfl
theorem cf_members (args : Array Value) (W : World) : (callFunc 30 args).run Tryd.prog W = .ok (.enter 30 args) W := by kernel_rfl
theorem cf_places (args : Array Value) (W : World) : (callFunc 31 args).run Tryd.prog W = .ok (.enter 31 args) W := by kernel_rfl
theorem cf_bounds (args : Array Value) (W : World) : (callFunc 32 args).run Tryd.prog W = .ok (.enter 32 args) W := by kernel_rfl
theorem cf_edges (args : Array Value) (W : World) : (callFunc 33 args).run Tryd.prog W = .ok (.enter 33 args) W := by kernel_rfl
theorem cf_pop (args : Array Value) (W : World) : (callFunc 34 args).run Tryd.prog W = .ok (.enter 34 args) W := by kernel_rfl
theorem cf_weighted (args : Array Value) (W : World) : (callFunc 35 args).run Tryd.prog W = .ok (.enter 35 args) W := by kernel_rfl
theorem cf_plain (args : Array Value) (W : World) : (callFunc 36 args).run Tryd.prog W = .ok (.enter 36 args) W := by kernel_rfl
theorem cf_zscan (args : Array Value) (W : World) : (callFunc 37 args).run Tryd.prog W = .ok (.enter 37 args) W := by kernel_rfl
set_option maxRecDepth 100000 in
theorem callf {x : Nm} (hx : x ∈ nmT) (args : Array Value) (W : World) : (callFunc x.f args).run Tryd.prog W = .ok (.enter x.f args) W := by
  simp only [nmT, List.mem_cons, List.not_mem_nil, or_false] at hx
  rcases hx with rfl | rfl | rfl | rfl | rfl | rfl | rfl | rfl | rfl | rfl | rfl | rfl | rfl | rfl | rfl | rfl | rfl | rfl | rfl | rfl | rfl | rfl | rfl | rfl | rfl | rfl | rfl | rfl | rfl
  all_goals
    simp only [nm0, nm1, nm2, nm3, nm4, nm5, nm6, nm7, nm8, nm9, nm10, nm11, nm12, nm13, nm14, nm15, nm16, nm17, nm18, nm19, nm20, nm21, nm22, nm23, nm24, nm25, nm26, nm27, nm28]
    first | exact cf_keys _ _ | exact cf_scan _ _ | exact cf_object _ _ | exact cf_zadd _ _ | exact cf_zincrby _ _ | exact cf_members _ _ | exact cf_places _ _ | exact cf_bounds _ _ | exact cf_edges _ _ | exact cf_pop _ _ | exact cf_weighted _ _ | exact cf_plain _ _ | exact cf_zscan _ _
set_option maxRecDepth 100000 in
theorem cm_rd (c : Cm) (vk ve vw vl : Value) (j : Nat) (v : Value) (h : (cmCells c vk ve vw)[j]? = some v) : (rdCells c vk ve vw vl)[j]? = some v := by
  have hp : rdCells c vk ve vw vl = (cmCells c vk ve vw).push vl := rfl
  rw [hp, Array.getElem?_push, if_neg (by have := (Array.getElem?_eq_some_iff.1 h).1; omega)]
  exact h
theorem wpList_stblkE {P : Program} {W : World} {B : Nat} {T : TypeId} {cs : Array Value} {ops : Array Oper} {rest : List Oper} {o : Oper} {a : Act} {Q : Exit → Act → World → Prop} (ty : TypeId) (x y : Operand) (ho : o.op = .store ty x y) (hg : o.guard = none)
    (h : Blk W B T cs) (cs' : Array Value) (hx : a.eval x = .pointer (some ⟨B, 0, none⟩)) (hy : a.eval y = .agg cs') (hs : cs'.size = cs.size) (hi : (P.info? ty).map (·.size) = some cs'.size) (h1 : cs'.all (·.oneCell') = true)
    (hK : ∀ W', W.setCells B 0 cs'.toList = W' → wpList P ops Q rest (a.put o.dst undef) W') : wpList P ops Q (o :: rest) a W :=
  wpList_store_mid hg ty x y ho B 0 cs' hx hy (h.there _ (by omega)) hi h1 (hK _ rfl)
theorem post_full {w W : World} {b : Nat} {c : Cm} {l : List ByteArray} {vk ve vw : Value} {A : Option Addr} {n : Nat} {cs : Array Value} (X : Rdx w W b c l vk ve vw A n) (hB : Blk W w.heap.size 35 cs) (hs : cs.size = 29) :
    PostP w (c, 0) (.returned (.tuple #[.agg (cmCells c vk ve vw), .int .i64 0])) (W.setCells w.heap.size 0 (cmCells c vk ve vw).toList) ∧ Blk (W.setCells w.heap.size 0 (cmCells c vk ve vw).toList) w.heap.size 35 (cmCells c vk ve vw) := by
  obtain ⟨k1, k2, k3⟩ := hB.stored (cmCells c vk ve vw) (by rw [hs]; rfl)
  exact ⟨⟨X.bel.grown k2 X.bel.size (fun k e => by cases e; exact Nat.le_refl _), vk, ve, vw, rfl, X.K.sets (by decide) _ 0 _ _ hB, X.E.sets (by decide) _ 0 _ _ hB, X.W.sets (by decide) _ 0 _ _ hB⟩, k1⟩
set_option maxHeartbeats 8000000 in
set_option maxRecDepth 100000 in
theorem parse_some (w : World) (n : Nat) (ad : Addr) (s : ByteArray) (l : List ByteArray) (hL : ∀ x ∈ s :: l, x.size ≤ 1000) (hl : l.length ≤ 399) (hn : l.length + 1 ≤ n) (hC : Kd.C Kd.string w (some ad) (l.length + 1) (s :: l)) (hg : Gl w) (x : Nm) (hk : lookN (upS s) = some x) : Calls Tryd.prog 9 #[.slice (some ad) (l.length + 1) n] w (PostP w (parseX x (upS s) l)) := by
  have hs : s.size ≤ 1000 := hL s List.mem_cons_self
  have hlt : ad.block < w.heap.size := C_str_lt hC 0 (by simp)
  have hc : w.cell? ad = some (.string s) := by
    obtain ⟨ad', e, h⟩ := C_str hC 0 (by simp)
    cases e
    rw [add_zero'] at h
    exact h
  obtain ⟨w1, hw1, B1, b1⟩ : ∃ w1, w.alloc (.cells (cmCells zCm nilS nilS nilS) 35) = w1 ∧ Blk w1 w.heap.size 35 (cmCells zCm nilS nilS nilS) ∧ Below w.heap.size w w1 := ⟨_, rfl, Blk.new w _ _, below_box w _⟩
  have hc1 : w1.cell? ad = some (.string s) := (b1.cell hlt).trans hc
  have HK := Lib.hid (Known_calls s hs w1)
  rw [hk] at HK
  have HW := Lib.hid hw1
  have HB := Lib.hid (⟨B1, b1⟩ : _ ∧ _)
  have hcut : ∀ W : World, (Instr.slice 22 (.slice (some ad) (l.length + 1) n) (some (.int .i64 1)) none none).run Tryd.prog W = .ok (.slice (if n = 1 then some ad else (some ad).map (·.add (1 * 1))) l.length (n - 1)) W := cutS (some ad) (l.length + 1) n 1 (by omega)
  have hd := dropS hC (T := 1) (c := n) (by simp) hn
  rw [show (s :: l).drop 1 = l from rfl] at hd
  generalize (if n = 1 then some ad else (some ad).map (·.add (1 * 1))) = A1 at hcut hd
  have HD := Lib.hid hd
  have HL := Lib.hid hL
  have HC := Lib.hid (⟨hc, hlt⟩ : _ ∧ _)
  have HG := Lib.hid hg
  have HX := Lib.hid hk
  have hln : (l.length : Int) < 1000 := by omega
  clear hw1 B1 b1 hk hc hlt hd hL hC hg
  generalize hR : parseX x (upS s) l = R
  have HR := Lib.hid hR
  clear hR
  go_enter Tryd.func9, Tryd.ntmps9
  go_upto_region 1 with (fail)
  refine wp_at HW.out ?_
  clear HW
  go_wp2_with fail
  refine HK.out.mono ?_
  rintro e w2 ⟨rfl, b2⟩
  have HB2 := Lib.hid (⟨HB.out.1.below b2, HB.out.2.trans (b2.mono HB.out.2.size)⟩ : Blk w2 w.heap.size 35 (cmCells zCm nilS nilS nilS) ∧ Below w.heap.size w w2)
  clear HB HK b2 hc1
  simp only [Option.isSome_some]
  go_upto_region 4 with (fail)
  obtain ⟨w3, hw3, P3⟩ : ∃ w3, w2.alloc (.cells (rdCells zCm nilS nilS nilS (.slice A1 l.length (n - 1))) 51) = w3 ∧ Pa w w2.heap.size zCm l w3 := ⟨_, rfl, HB2.out.2.trans ((below_box w2 _).mono HB2.out.2.size), HB2.out.1.alloc _, Rd.new HB2.out.2 (fun x hx => HL.out x (List.mem_cons_of_mem _ hx)) (by omega) (by omega) HD.out, HB2.out.1.lt⟩
  refine wp_at hw3 ?_
  have P3 := Lib.hid P3
  clear hw3 HB2 hcut HD
  generalize w2.heap.size = b at P3 ⊢
  have hc3 : w3.cell? ad = some (.string s) := (P3.out.bel.cell HC.out.2).trans HC.out.1
  go_wp2_with fail
  refine (upper_calls s hs w3).mono ?_
  rintro e w4 ⟨rfl, b4⟩
  rw [show (⟨(up s).toArray⟩ : ByteArray) = upS s from rfl]
  have P4 := Lib.hid (P3.out.below b4)
  clear P3 b4 hc3
  have hc4 : w4.cell? ⟨b, 0, none⟩ = some (.string ⟨#[]⟩) := P4.out.name
  have hf4 := P4.out.rd.frozen 0
  go_upto_region 5 with (fail)
  have P5 : Pa w b { zCm with name := upS s } l (w4.setCell ⟨b, 0, none⟩ (.string (upS s))) := ⟨P4.out.bel.setCell (p := ⟨b, 0, none⟩) (Nat.le_of_lt P4.out.ne) _, P4.out.out.other (Nat.ne_of_lt P4.out.ne) 0 _, P4.out.rd.put (c' := { zCm with name := upS s }) 0 (.string (upS s)) rfl rfl rfl (fun _ _ _ _ => rfl), P4.out.ne⟩
  have P5 := Lib.hid P5
  clear P4 hc4 hf4
  generalize w4.setCell ⟨b, 0, none⟩ (.string (upS s)) = w5 at P5 ⊢
  have hU : (upS s).size ≤ maxLen := Nat.le_trans (Nat.le_trans (upS_size s) hs) (by decide)
  unfold parseX at HR
  generalize upS s = U at *
  have hv : nmVal U = .agg #[.int .i64 x.lo, .int .i64 x.hi, .bool x.wr, .func (.func x.f) #[] #[]] := by
    unfold nmVal
    rw [HX.out]
    rfl
  have HXM := Lib.hid (findN_mem HX.out).1
  clear HX
  have HV := Lib.hid hv
  have HU := Lib.hid hU
  clear hv hU
  go_cut [5] (fun s5 wx => ∃ xb, s5 = .pointer (some ⟨xb, 0, none⟩) ∧ Aside0 (Blk wx xb 54 #[.int .i64 x.lo, .int .i64 x.hi, .bool x.wr, .func (.func x.f) #[] #[]] ∧ Pa w b { zCm with name := U } l wx ∧ b < xb))
  case first =>
    refine wpIn_wide.1 (wpIn_region_any (F := Fence.wide) (n := 6) (by kernel_rfl) ?_)
    change wpAnyIn _ _ _ _ _ _ _ _ _ w5.drew
    have P6 := Lib.hid (P5.out.below (below_drew (Below.refl _ w5)))
    clear P5
    generalize w5.drew = w6 at P6 ⊢
    have hS : w6.cell? ⟨b, 0, none⟩ = some (.string U) := P6.out.name
    have hlb : b < w6.heap.size := P6.out.rd.lt
    refine wpAnyIn_of_G (S := fun w' => w'.cell? ⟨b, 0, none⟩ = some (.string U)) (B := fun j => decide (j < 8)) _ _ _ _ ?_
    refine wpAnyG_take (i := 1) (v := .pointer (some ⟨b, 0, none⟩)) rfl rfl (by kernel_rfl) (by kernel_rfl) (by kernel_rfl) (by kernel_rfl) (fun _ _ _ h => h) (by rfl) (fun _ => rfl) hS (fun w' hw => by go_simp) ?_
    simp only [Act.put, List.setIfInBounds_toArray, List.set_cons_zero, List.set_cons_succ]
    refine wpAnyG_take (i := 2) (v := .pointer (some ⟨b, 0, none⟩)) rfl rfl (by kernel_rfl) (by kernel_rfl) (by kernel_rfl) (by kernel_rfl) (fun _ _ _ h => h) (by rfl) (fun _ => rfl) hS (fun w' hw => by go_simp) ?_
    simp only [Act.put, List.setIfInBounds_toArray, List.set_cons_zero, List.set_cons_succ]
    refine wpAnyG_take (i := 3) (v := .pointer (some ⟨b, 0, none⟩)) rfl rfl (by kernel_rfl) (by kernel_rfl) (by kernel_rfl) (by kernel_rfl) (fun _ _ _ h => h) (by rfl) (fun _ => rfl) hS (fun w' hw => by go_simp) ?_
    simp only [Act.put, List.setIfInBounds_toArray, List.set_cons_zero, List.set_cons_succ]
    refine wpAnyG_take (i := 4) (v := .pointer (some ⟨b, 0, none⟩)) rfl rfl (by kernel_rfl) (by kernel_rfl) (by kernel_rfl) (by kernel_rfl) (fun _ _ _ h => h) (by rfl) (fun _ => rfl) hS (fun w' hw => by go_simp) ?_
    simp only [Act.put, List.setIfInBounds_toArray, List.set_cons_zero, List.set_cons_succ]
    refine wpAnyG_take (i := 5) (v := .string U) rfl rfl (by kernel_rfl) (by kernel_rfl) (by kernel_rfl) (by kernel_rfl) (fun _ _ _ h => h) (by rfl) (fun _ => rfl) hS (fun w' hw => by go_simp) ?_
    simp only [Act.put, List.setIfInBounds_toArray, List.set_cons_zero, List.set_cons_succ]
    refine wpAnyG_two 0 7 rfl rfl (by kernel_rfl) ?_ ?_
    · gi_wp2_with fail
      refine ⟨trivial, (callsIn_wide.2 (names_calls w6)).mono ?_⟩
      rintro e w7 ⟨rfl, ho, bq⟩
      have HO := Lib.hid ho
      have P7 := Lib.hid (P6.out.below bq)
      clear P6 ho bq hS hlb
      gi_wp2
      refine ⟨by first | exact fun _ => P7.out.name | exact P7.out.name, ?_⟩
      try simp only [Act.put, List.setIfInBounds_toArray, List.set_cons_zero, List.set_cons_succ]
      refine wpAnyG_two 6 7 rfl rfl (by kernel_rfl) ?_ ?_
      · have hlk := look_run HO.out U HU.out
        rw [HV.out] at hlk
        gi_wp2
        refine ⟨by first | exact fun _ => P7.out.name | exact P7.out.name, ?_⟩
        try simp only [Act.put, List.setIfInBounds_toArray, List.set_cons_zero, List.set_cons_succ]
        refine wpAnyG_one 7 rfl (by kernel_rfl) ?_
        clear hlk
        gi_wp2
        obtain ⟨w8, hq, BZ, P8, hxb⟩ : ∃ W, w7.alloc (.cells nmz 54) = W ∧ Blk W w7.heap.size 54 nmz ∧ Pa w b { zCm with name := U } l W ∧ b < w7.heap.size := ⟨_, rfl, Blk.new w7 _ _, P7.out.below (below_box w7 _), P7.out.rd.lt⟩
        have P8 := Lib.hid P8
        unfold nmz at hq
        simp only [hq]
        clear hq
        generalize w7.heap.size = xq at BZ hxb ⊢
        refine ⟨by first | exact fun _ => P8.out.name | exact P8.out.name, ?_⟩
        have z0 : w8.cell? ⟨xq, 0, none⟩ = some (.int .i64 0) := BZ.cell 0
        have z1 : w8.cell? ⟨xq, 1, none⟩ = some (.int .i64 0) := BZ.cell 1
        have z2 : w8.cell? ⟨xq, 2, none⟩ = some (.bool false) := BZ.cell 2
        have z3 : w8.cell? ⟨xq, 3, none⟩ = some .nilFunc := BZ.cell 3
        have y0 := BZ.frozen 0
        have y1 := BZ.frozen 1
        have y2 := BZ.frozen 2
        have y3 := BZ.frozen 3
        refine wpAnyG_from 8 (by rfl) (by kernel_rfl) (by omega) ?_
        gi_wp2
        go_meet
        exact ⟨_, rfl, ⟨fin5 BZ P8.out hxb _ _ _ _⟩⟩
      · have HO2 := Lib.hid (OwnsN.above HO.out (below_box w7 (.cells nmz 54)))
        gi_wp2
        obtain ⟨w8, hq, BZ, P8, hxb⟩ : ∃ W, w7.alloc (.cells nmz 54) = W ∧ Blk W w7.heap.size 54 nmz ∧ Pa w b { zCm with name := U } l W ∧ b < w7.heap.size := ⟨_, rfl, Blk.new w7 _ _, P7.out.below (below_box w7 _), P7.out.rd.lt⟩
        have P8 := Lib.hid P8
        rw [hq] at HO2
        have hlk := look_run HO2.out U HU.out
        rw [HV.out] at hlk
        unfold nmz at hq
        simp only [hq]
        clear hq
        generalize w7.heap.size = xq at BZ hxb ⊢
        refine ⟨by first | exact fun _ => P8.out.name | exact P8.out.name, ?_⟩
        try simp only [Act.put, List.setIfInBounds_toArray, List.set_cons_zero, List.set_cons_succ]
        refine wpAnyG_one 6 rfl (by kernel_rfl) ?_
        gi_wp2
        refine ⟨by first | exact fun _ => P8.out.name | exact P8.out.name, ?_⟩
        have z0 : w8.cell? ⟨xq, 0, none⟩ = some (.int .i64 0) := BZ.cell 0
        have z1 : w8.cell? ⟨xq, 1, none⟩ = some (.int .i64 0) := BZ.cell 1
        have z2 : w8.cell? ⟨xq, 2, none⟩ = some (.bool false) := BZ.cell 2
        have z3 : w8.cell? ⟨xq, 3, none⟩ = some .nilFunc := BZ.cell 3
        have y0 := BZ.frozen 0
        have y1 := BZ.frozen 1
        have y2 := BZ.frozen 2
        have y3 := BZ.frozen 3
        refine wpAnyG_from 8 (by rfl) (by kernel_rfl) (by omega) ?_
        gi_wp2
        go_meet
        exact ⟨_, rfl, ⟨fin5 BZ P8.out hxb _ _ _ _⟩⟩
    · clear hS hlb
      gi_wp2
      obtain ⟨w7, hq, BZ, P7, hxb⟩ : ∃ W, w6.alloc (.cells nmz 54) = W ∧ Blk W w6.heap.size 54 nmz ∧ Pa w b { zCm with name := U } l W ∧ b < w6.heap.size := ⟨_, rfl, Blk.new w6 _ _, P6.out.below (below_box w6 _), P6.out.rd.lt⟩
      have P7 := Lib.hid P7
      unfold nmz at hq
      simp only [hq]
      clear hq
      generalize w6.heap.size = xq at BZ hxb ⊢
      refine ⟨by first | exact fun _ => P7.out.name | exact P7.out.name, ?_⟩
      try simp only [Act.put, List.setIfInBounds_toArray, List.set_cons_zero, List.set_cons_succ]
      refine wpAnyG_one 0 rfl (by kernel_rfl) ?_
      gi_wp2_with fail
      refine ⟨trivial, (callsIn_wide.2 (names_calls w7)).mono ?_⟩
      rintro e w8 ⟨rfl, ho, bq⟩
      have HO := Lib.hid ho
      have P8 := Lib.hid (P7.out.below bq)
      have BZ := BZ.below bq
      clear P6 P7 ho bq
      gi_wp2
      refine ⟨by first | exact fun _ => P8.out.name | exact P8.out.name, ?_⟩
      try simp only [Act.put, List.setIfInBounds_toArray, List.set_cons_zero, List.set_cons_succ]
      refine wpAnyG_one 6 rfl (by kernel_rfl) ?_
      have hlk := look_run HO.out U HU.out
      rw [HV.out] at hlk
      gi_wp2
      refine ⟨by first | exact fun _ => P8.out.name | exact P8.out.name, ?_⟩
      have z0 : w8.cell? ⟨xq, 0, none⟩ = some (.int .i64 0) := BZ.cell 0
      have z1 : w8.cell? ⟨xq, 1, none⟩ = some (.int .i64 0) := BZ.cell 1
      have z2 : w8.cell? ⟨xq, 2, none⟩ = some (.bool false) := BZ.cell 2
      have z3 : w8.cell? ⟨xq, 3, none⟩ = some .nilFunc := BZ.cell 3
      have y0 := BZ.frozen 0
      have y1 := BZ.frozen 1
      have y2 := BZ.frozen 2
      have y3 := BZ.frozen 3
      refine wpAnyG_from 8 (by rfl) (by kernel_rfl) (by omega) ?_
      gi_wp2
      go_meet
      exact ⟨_, rfl, ⟨fin5 BZ P8.out hxb _ _ _ _⟩⟩
  case rest =>
  obtain ⟨xb, rfl, HQ⟩ := hcut
  clear P5
  have hx0 : wc.cell? ⟨xb, 0, none⟩ = some (.int .i64 x.lo) := HQ.out.1.cell 0
  have hx1 : wc.cell? ⟨xb, 1, none⟩ = some (.int .i64 x.hi) := HQ.out.1.cell 1
  have hx3 : wc.cell? ⟨xb, 3, none⟩ = some (.func (.func x.f) #[] #[]) := HQ.out.1.cell 3
  by_cases h1 : (l.length : Int) + 1 < x.lo
  · have HRB := Lib.hid (show R = (zCm, 171) from by rw [← HR.out, if_pos (.inl h1)])
    go_wp2_with (refine wpList_stblk 35 (.tmp 2) (.tmp 49) rfl rfl HQ.out.2.1.out (cmCells zCm nilS nilS nilS) rfl rfl rfl infoCmd (one_cm _ _ _ _ _ _ _ _ _ _) ?_; intro w8 B8 g8 _; have HB8 := Lib.hid B8; have HG8 := Lib.hid g8; clear B8 g8)
    rw [HRB.out]
    exact end_parse rfl rfl rfl HB8.out (post_zero (HQ.out.2.1.bel.grown HG8.out HQ.out.2.1.bel.size (fun k e => by cases e; exact Nat.le_refl _)))
  by_cases h2 : x.hi < (l.length : Int) + 1
  · have HRB := Lib.hid (show R = (zCm, 171) from by rw [← HR.out, if_pos (.inr h2)])
    go_wp2_with (refine wpList_stblk 35 (.tmp 2) (.tmp 49) rfl rfl HQ.out.2.1.out (cmCells zCm nilS nilS nilS) rfl rfl rfl infoCmd (one_cm _ _ _ _ _ _ _ _ _ _) ?_; intro w8 B8 g8 _; have HB8 := Lib.hid B8; have HG8 := Lib.hid g8; clear B8 g8)
    rw [HRB.out]
    exact end_parse rfl rfl rfl HB8.out (post_zero (HQ.out.2.1.bel.grown HG8.out HQ.out.2.1.bel.size (fun k e => by cases e; exact Nat.le_refl _)))
  have hR := HR.out
  clear HR
  rw [if_neg (fun h => h.elim h1 h2)] at hR
  have hcall := reads_calls HXM.out HQ.out.2.1.rd rfl (by omega)
  generalize readZ x.f { zCm with name := U } l = z at hcall hR
  have HCALL := Lib.hid hcall
  have hcf := callf HXM.out #[.pointer (some ⟨b, 0, none⟩)] wc
  have HR := Lib.hid hR
  clear hcall hR
  go_wp2_with fail
  refine HCALL.out.mono ?_
  rintro e w7 ⟨rfl, q1, q2, q3⟩
  have B7 := Lib.hid (q2 _ _ _ HQ.out.2.1.out (Nat.ne_of_lt HQ.out.2.1.ne) (by decide) (by decide) (by decide))
  have q1 := Lib.hid q1
  clear HCALL q2 hx0 hx1 hx3 HQ hcf
  by_cases hz : z.1 = 0
  · obtain ⟨vk, ve, vw, A7, n7, X⟩ := (q3 hz).open_
    have HRB := Lib.hid (show R = (z.2.1, 0) from by rw [← HR.out, if_pos hz])
    rw [show refV z.1 = .nilIface from if_pos hz]
    obtain ⟨a1, m1, e1⟩ := Kd.R_slice X.K
    obtain ⟨a2, m2, e2⟩ := Kd.R_slice X.E
    obtain ⟨a3, m3, e3⟩ := Kd.R_slice X.W
    have HO := Lib.hid (show (cmCells z.2.1 vk ve vw).all (·.oneCell') = true by rw [e1, e2, e3]; exact one_cm _ _ _ _ _ _ _ _ _ _)
    have X := Lib.hid X
    clear q3 hz e1 e2 e3
    go_wp2_with (first
      | (refine wpList_load_mid rfl 35 (.tmp 61) rfl b 0 rfl (cmCells z.2.1 vk ve vw).toList _ (X.out.blk.range 0 _ (fun j v hv => by rw [Nat.zero_add]; exact cm_rd _ _ _ _ _ j v (by simpa using hv))) Tryd.underlying35 rfl infoCmd ?_)
      | (refine wpList_stblkE 35 (.tmp 2) (.tmp 62) rfl rfl B7.out (cmCells z.2.1 vk ve vw) rfl rfl rfl infoCmd HO.out ?_; intro w9 hw9; have HW9 := Lib.hid hw9; clear hw9))
    obtain ⟨p1, p2⟩ := post_full X.out B7.out rfl
    rw [HW9.out] at p1 p2
    rw [HRB.out]
    exact end_parse rfl rfl rfl p2 p1
  · have HRB := Lib.hid (show R = (zCm, z.1) from by rw [← HR.out, if_neg hz])
    rw [refV_ne hz]
    have hg7 := HG.out.below q1.out
    clear q3
    go_wp2_with fail
    refine (told_calls z.1 w7 hg7).mono ?_
    rintro e w8 ⟨rfl, b8⟩
    have B8 := Lib.hid (B7.out.below b8)
    have b8 := Lib.hid (q1.out.trans (b8.mono q1.out.size))
    clear B7 q1 hg7
    go_wp2_with (refine wpList_stblk 35 (.tmp 2) (.tmp 56) rfl rfl B8.out (cmCells zCm nilS nilS nilS) rfl rfl rfl infoCmd (one_cm _ _ _ _ _ _ _ _ _ _) ?_; intro w9 B9 g9 _; have HB9 := Lib.hid B9; have HG9 := Lib.hid g9; clear B9 g9)
    rw [HRB.out]
    exact end_parse rfl rfl rfl HB9.out (post_zero (b8.out.grown HG9.out b8.out.size (fun k e => by cases e; exact Nat.le_refl _)))
theorem parseP_none {s : ByteArray} {l : List ByteArray} (hk : lookN (upS s) = none) : parseP (s :: l) = (zCm, 170) := by
  rw [parseP, hk, parseN]
theorem parseP_some {s : ByteArray} {l : List ByteArray} {x : Nm} (hk : lookN (upS s) = some x) : parseP (s :: l) = parseX x (upS s) l := by
  rw [parseP, hk, parseN]
/-- command.Parse of a list of texts. -/
theorem Parse_calls (w : World) (n : Nat) (A : Option Addr) (L : List ByteArray) (hL : ∀ x ∈ L, x.size ≤ 1000) (hl : L.length ≤ 400) (hn : L.length ≤ n) (hC : Kd.C Kd.string w A L.length L) (hg : Gl w) : Calls Tryd.prog 9 #[.slice A L.length n] w (PostP w (parseP L)) := by
  cases L with
  | nil => exact parse_nil w n A
  | cons s l =>
    obtain ⟨ad, rfl, h⟩ := C_str hC 0 (by simp)
    rw [add_zero'] at h
    have hlt : ad.block < w.heap.size := C_str_lt hC 0 (by simp)
    have hl2 : l.length ≤ 399 := by simp at hl; omega
    cases hk : lookN (upS s) with
    | none =>
      rw [parseP_none hk]
      exact parse_none w n ad s l.length (hL s List.mem_cons_self) (by omega) h hlt hk
    | some x =>
      rw [parseP_some hk]
      exact parse_some w n ad s l hL hl2 hn hC hg x hk
end Go.Proofs.YtegmbgjolnbgpaaDoor.P
