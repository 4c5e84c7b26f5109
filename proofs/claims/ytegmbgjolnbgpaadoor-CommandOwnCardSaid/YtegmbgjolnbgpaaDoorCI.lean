/- ZADD's arguments, as the reader takes them. Conditions: each theorem names its own. -/
import Derived.Test.YtegmbgjolnbgpaaDoorCH
namespace Go.Proofs.YtegmbgjolnbgpaaDoor.P
open Go.RowKit Go.Shelf Go.Proofs.YtegmbgjolnbgpaaDoorW.PrintWords Go.Proofs.YtegmbgjolnbgpaaDoorW.PrintLast Go.Proofs.YtegmbgjolnbgpaaDoorW.PrintMore
attribute [local go_sem] Oper.semAt_some
set_option linter.unusedSimpArgs false

section
variable {w0 w W : World} {b : Nat} {c : Cm} {l : List ByteArray}
def kfl (ks : List (Fin 6)) : Fl := ⟨decide ((0 : Fin 6) ∈ ks), decide ((1 : Fin 6) ∈ ks), decide ((2 : Fin 6) ∈ ks), decide ((3 : Fin 6) ∈ ks), decide ((4 : Fin 6) ∈ ks), decide ((5 : Fin 6) ∈ ks)⟩
def okF (f : Fl) : Bool := !(f.nx && (f.xx || f.gt || f.lt)) && !(f.gt && f.lt)
theorem okF_right (ks : List (Fin 6)) : flags_Right.f (decide ((0 : Fin 6) ∈ ks)) (decide ((1 : Fin 6) ∈ ks)) (decide ((2 : Fin 6) ∈ ks)) (decide ((3 : Fin 6) ∈ ks)) (decide ((4 : Fin 6) ∈ ks)) (decide ((5 : Fin 6) ∈ ks)) = some (okF (kfl ks)) := rfl
theorem knw_le : ∀ l : List ByteArray, (knw l).length ≤ l.length
  | [] => Nat.le_refl _
  | s :: l => by
    rw [knw]
    cases kix s with
    | none => exact Nat.zero_le _
    | some k => exact Nat.succ_le_succ (knw_le l)
def pairsZ : Cm → List ByteArray → Rz
  | c, [] => (0, c, [])
  | _, [_] => bad 172
  | c, s :: m :: l => match numA s with
    | none => bad 173
    | some n => if m.size ≤ 64 then pairsZ (c.addE [⟨m, n⟩]) l else bad 172
theorem pairsZ_none {s m : ByteArray} (hn : numA s = none) : pairsZ c (s :: m :: l) = bad 173 := by rw [pairsZ, hn]
theorem pairsZ_ok {s m : ByteArray} {n : Int} (hn : numA s = some n) (hm : m.size ≤ 64) : pairsZ c (s :: m :: l) = pairsZ (c.addE [⟨m, n⟩]) l := by rw [pairsZ, hn]; exact if_pos hm
theorem pairsZ_no {s m : ByteArray} {n : Int} (hn : numA s = some n) (hm : ¬ m.size ≤ 64) : pairsZ c (s :: m :: l) = bad 172 := by rw [pairsZ, hn]; exact if_neg hm
def zaddZ' (c : Cm) (l : List ByteArray) : Rz :=
  if okF (kfl (knw l)) = true then
    if (l.drop (knw l).length).length < 2 ∨ (l.drop (knw l).length).length % 2 = 1 ∨ ((kfl (knw l)).incr = true ∧ 2 < (l.drop (knw l).length).length) then bad 172
    else pairsZ { c with fl := kfl (knw l) } (l.drop (knw l).length)
  else bad 172
def zaddZ (c : Cm) (l : List ByteArray) : Rz := keyZ c zaddZ' l
theorem At.put6 (h : At w0 w b c l W) (x0 x1 x2 x3 x4 x5 : Bool) : At w0 w b { c with fl := ⟨x0, x1, x2, x3, x4, x5⟩ } l ((((((W.setCell ⟨b, 3, none⟩ (.bool x0)).setCell ⟨b, 4, none⟩ (.bool x1)).setCell ⟨b, 5, none⟩ (.bool x2)).setCell ⟨b, 6, none⟩ (.bool x3)).setCell ⟨b, 7, none⟩ (.bool x4)).setCell ⟨b, 8, none⟩ (.bool x5)) :=
  (((((h.put (c' := { c with fl := { c.fl with nx := x0 } }) 3 (.bool x0) rfl rfl rfl (fun _ _ _ _ => rfl)).put (c' := { c with fl := { c.fl with nx := x0, xx := x1 } }) 4 (.bool x1) rfl rfl rfl (fun _ _ _ _ => rfl)).put (c' := { c with fl := { c.fl with nx := x0, xx := x1, gt := x2 } }) 5 (.bool x2) rfl rfl rfl (fun _ _ _ _ => rfl)).put (c' := { c with fl := { c.fl with nx := x0, xx := x1, gt := x2, lt := x3 } }) 6 (.bool x3) rfl rfl rfl (fun _ _ _ _ => rfl)).put (c' := { c with fl := { c.fl with nx := x0, xx := x1, gt := x2, lt := x3, ch := x4 } }) 7 (.bool x4) rfl rfl rfl (fun _ _ _ _ => rfl)).put (c' := { c with fl := ⟨x0, x1, x2, x3, x4, x5⟩ }) 8 (.bool x5) rfl rfl rfl (fun _ _ _ _ => rfl)
theorem At.cut (h : At w0 w b c l W) {l' : List ByteArray} {A' : Option Addr} {n' : Nat} (hn : l'.length ≤ n') (hl : l'.length ≤ l.length) (hm : ∀ x ∈ l', x ∈ l) (hC : Kd.C Kd.string w0 A' l'.length l') : At w0 w b c l' (W.setCell ⟨b, 29, none⟩ (.slice A' l'.length n')) :=
  ⟨h.1.cut hn hl hm hC, h.2.trans (Fr.grown (grown_set (grown_refl W (some b)) 29 _))⟩
theorem zadd_bad {k : ByteArray} (hk : k.size ≤ 64) (h : okF (kfl (knw l)) = false) : zaddZ c (k :: l) = bad 172 := by
  rw [show zaddZ c (k :: l) = zaddZ' (c.addK [k]) l from keyZ_ok hk]
  unfold zaddZ'
  rw [h]
  rfl
set_option maxHeartbeats 8000000 in
set_option maxRecDepth 100000 in
theorem zadd_no {k : ByteArray} (h : Rd w0 w b c (k :: l)) (hk : k.size ≤ 64) (hok : okF (kfl (knw l)) = false) : Calls Tryd.prog 28 #[.pointer (some ⟨b, 0, none⟩)] w (PostZ w0 w b (zaddZ c (k :: l))) := by
  have HS := Lib.hid h
  rw [zadd_bad hk hok]
  have HO := Lib.hid (show flags_Right.f (decide ((0 : Fin 6) ∈ knw l)) (decide ((1 : Fin 6) ∈ knw l)) (decide ((2 : Fin 6) ∈ knw l)) (decide ((3 : Fin 6) ∈ knw l)) (decide ((4 : Fin 6) ∈ knw l)) (decide ((5 : Fin 6) ∈ knw l)) = some false by rw [okF_right, hok])
  clear h hok
  go_enter Tryd.func28, Tryd.ntmps28
  go_wp2_with fail
  refine (some1_ok HS.out hk).mono ?_
  rintro e w1 ⟨rfl, h1, f1⟩
  have A1 := Lib.hid (show At w0 w b (c.addK [k]) l w1 from ⟨h1, f1⟩)
  obtain ⟨vk, ve, vw, A, n, hB, hn, hC, _⟩ := h1.ex
  have hl : w1.cell? ⟨b, 29, none⟩ = some (.slice A l.length n) := hB.cell 29
  have HC := Lib.hid (Kd.C_below hC h1.bel)
  have HOK := Lib.hid h1.ok
  have hlen : l.length ≤ 1000 := by have := h1.few.1; omega
  clear h1 f1 hB hC hn
  go_wp2_with fail
  refine (read_calls l HOK.out A n w1 HC.out hlen false HO.out).mono ?_
  rintro e w2 ⟨rfl, hb2⟩
  have A2 := Lib.hid (A1.out.below hb2)
  clear A1 hb2 hl HC HOK hlen
  rw [if_neg (by decide)]
  simp only [fls]
  go_wp2_with fail
  refine (first_calls 172 (by decide) _ _ (by rw [World.cell?_alloc_at _ _ _ _ (by simp)]; rfl)).mono ?_
  rintro e w8 ⟨rfl, rfl⟩
  rw [show refV 172 = .iface 74 (.agg #[.int .i64 172]) from rfl]
  go_wp2
  go_ret
  exact ((A2.out.box _).box _).bad (by decide)
set_option maxHeartbeats 8000000 in
set_option maxRecDepth 100000 in
theorem zadd_yes {k : ByteArray} (h : Rd w0 w b c (k :: l)) (hk : k.size ≤ 64) (hok : okF (kfl (knw l)) = true) : Calls Tryd.prog 28 #[.pointer (some ⟨b, 0, none⟩)] w (PostZ w0 w b (zaddZ c (k :: l))) := by
  have HS := Lib.hid h
  have hz : zaddZ c (k :: l) = if (l.drop (knw l).length).length < 2 ∨ (l.drop (knw l).length).length % 2 = 1 ∨ ((kfl (knw l)).incr = true ∧ 2 < (l.drop (knw l).length).length) then bad 172
    else pairsZ { (c.addK [k]) with fl := kfl (knw l) } (l.drop (knw l).length) := by
    rw [show zaddZ c (k :: l) = zaddZ' (c.addK [k]) l from keyZ_ok hk]
    unfold zaddZ'
    rw [if_pos hok]
  rw [hz]
  have hK := knw_le l
  have hlen0 : l.length ≤ 500 := by have := h.few.1; simp at this; omega
  have hrd := fun (A : Option Addr) (n : Nat) (w1 : World) (hC : Kd.C Kd.string w1 A l.length l) => read_calls l (fun x hx => h.ok x (List.mem_cons_of_mem _ hx)) A n w1 hC (by omega) true (by rw [okF_right, hok])
  simp only [if_true, fls] at hrd
  unfold kfl
  have hdl : (l.drop (knw l).length).length = l.length - (knw l).length := List.length_drop
  have hdr := fun (A : Option Addr) (n : Nat) (hC : Kd.C Kd.string w0 A l.length l) (hn : l.length ≤ n) => dropS hC (T := (knw l).length) hK hn
  have hcut := fun (A : Option Addr) (n : Nat) => cutS A l.length n (knw l).length hK
  have hmem : ∀ x ∈ l.drop (knw l).length, x ∈ l := fun x hx => List.mem_of_mem_drop hx
  clear hz hok
  generalize decide ((0 : Fin 6) ∈ knw l) = x0 at hrd ⊢
  generalize decide ((1 : Fin 6) ∈ knw l) = x1 at hrd ⊢
  generalize decide ((2 : Fin 6) ∈ knw l) = x2 at hrd ⊢
  generalize decide ((3 : Fin 6) ∈ knw l) = x3 at hrd ⊢
  generalize decide ((4 : Fin 6) ∈ knw l) = x4 at hrd ⊢
  generalize decide ((5 : Fin 6) ∈ knw l) = x5 at hrd ⊢
  generalize l.drop (knw l).length = L at hdl hdr hmem ⊢
  generalize (knw l).length = K at hK hdl hdr hcut hrd ⊢
  simp only
  have hL2 : L.length ≤ l.length := by omega
  have HM := Lib.hid hmem
  have HRD := Lib.hid hrd
  have HDR := Lib.hid hdr
  have HCUT := Lib.hid hcut
  have HL := Lib.hid hdl
  clear h hmem hrd hdr hcut hdl
  generalize hR : (if L.length < 2 ∨ L.length % 2 = 1 ∨ (x5 = true ∧ 2 < L.length) then bad 172 else pairsZ _ L) = R
  have HRR := Lib.hid hR
  clear hR
  go_enter Tryd.func28, Tryd.ntmps28
  go_wp2_with fail
  refine (some1_ok HS.out hk).mono ?_
  rintro e w1 ⟨rfl, h1, f1⟩
  have A1 := Lib.hid (show At w0 w b (c.addK [k]) l w1 from ⟨h1, f1⟩)
  obtain ⟨vk, ve, vw, A, n, hB, hn, hC, _⟩ := h1.ex
  have hl : w1.cell? ⟨b, 29, none⟩ = some (.slice A l.length n) := hB.cell 29
  have HR1 := Lib.hid (HRD.out A n w1 (Kd.C_below hC h1.bel))
  have HD1 := HDR.out A n hC hn
  have hcut := HCUT.out A n
  generalize (if n = K then A else A.map (·.add (K * 1))) = A1' at hcut HD1
  have HD := Lib.hid HD1
  clear h1 f1 hB hC HD1 HRD HDR HCUT
  go_wp2_with fail
  refine HR1.out.mono ?_
  rintro e w2 ⟨rfl, hb2⟩
  have A2 := Lib.hid (A1.out.below hb2)
  have hl2 : w2.cell? ⟨b, 29, none⟩ = some (.slice A l.length n) := (hb2.cell (p := ⟨b, 29, none⟩) A1.out.1.lt).trans hl
  clear A1 hb2 hl HR1
  go_wp2
  have B3 := (Blk.new w2 27 #[.bool x0, .bool x1, .bool x2, .bool x3, .bool x4, .bool x5])
  have A3 := Lib.hid (A2.out.box (.cells #[.bool x0, .bool x1, .bool x2, .bool x3, .bool x4, .bool x5] 27))
  have hl3 : (w2.alloc (.cells #[.bool x0, .bool x1, .bool x2, .bool x3, .bool x4, .bool x5] 27)).cell? ⟨b, 29, none⟩ = some (.slice A l.length n) := by rw [World.cell?_alloc_lt _ _ _ A2.out.1.lt]; exact hl2
  have hbne : b < w2.heap.size := A2.out.1.lt
  clear hl2 A2
  generalize hfb : w2.heap.size = fb at B3 hbne ⊢
  generalize w2.alloc (.cells #[.bool x0, .bool x1, .bool x2, .bool x3, .bool x4, .bool x5] 27) = w3 at B3 A3 hl3 ⊢
  clear hfb
  refine wpIn_wide.1 (wpIn_region_any (F := Fence.wide) (n := 0) (by kernel_rfl) ?_)
  have hS : w3.drew.cell? ⟨fb, 0, none⟩ = some (.bool x0) ∧ w3.drew.cell? ⟨fb, 1, none⟩ = some (.bool x1) ∧ w3.drew.cell? ⟨fb, 2, none⟩ = some (.bool x2) ∧ w3.drew.cell? ⟨fb, 3, none⟩ = some (.bool x3) ∧ w3.drew.cell? ⟨fb, 4, none⟩ = some (.bool x4) ∧ w3.drew.cell? ⟨fb, 5, none⟩ = some (.bool x5) ∧ w3.drew.cell? ⟨b, 29, none⟩ = some (.slice A l.length n) := ⟨B3.cell 0, B3.cell 1, B3.cell 2, B3.cell 3, B3.cell 4, B3.cell 5, hl3⟩
  have A4 := Lib.hid A3.out.drew
  have B4 : Blk w3.drew fb 27 #[.bool x0, .bool x1, .bool x2, .bool x3, .bool x4, .bool x5] := B3
  clear A3 B3 hl3
  change wpAnyIn _ _ _ _ _ _ _ _ _ w3.drew
  generalize w3.drew = w4 at hS A4 B4 ⊢
  refine wpAnyIn_of_G (S := fun w' => w'.cell? ⟨fb, 0, none⟩ = some (.bool x0) ∧ w'.cell? ⟨fb, 1, none⟩ = some (.bool x1) ∧ w'.cell? ⟨fb, 2, none⟩ = some (.bool x2) ∧ w'.cell? ⟨fb, 3, none⟩ = some (.bool x3) ∧ w'.cell? ⟨fb, 4, none⟩ = some (.bool x4) ∧ w'.cell? ⟨fb, 5, none⟩ = some (.bool x5) ∧ w'.cell? ⟨b, 29, none⟩ = some (.slice A l.length n)) (B := fun j => decide (j < 13)) _ _ _ _ ?_
  refine wpAnyG_take (i := 0) (v := .pointer (some ⟨b, 0, none⟩)) rfl rfl (by kernel_rfl) (by kernel_rfl) (by kernel_rfl) (by kernel_rfl) (fun _ _ _ h => h) (by rfl) (fun _ => rfl) hS (fun w' hw => by obtain ⟨s0, s1, s2, s3, s4, s5, s6⟩ := hw; go_simp) ?_
  simp only [Act.put, List.setIfInBounds_toArray, List.set_cons_zero, List.set_cons_succ]
  refine wpAnyG_take (i := 1) (v := .pointer (some ⟨b, 0, none⟩)) rfl rfl (by kernel_rfl) (by kernel_rfl) (by kernel_rfl) (by kernel_rfl) (fun _ _ _ h => h) (by rfl) (fun _ => rfl) hS (fun w' hw => by obtain ⟨s0, s1, s2, s3, s4, s5, s6⟩ := hw; go_simp) ?_
  simp only [Act.put, List.setIfInBounds_toArray, List.set_cons_zero, List.set_cons_succ]
  refine wpAnyG_take (i := 2) (v := .agg #[.bool x0, .bool x1, .bool x2, .bool x3, .bool x4, .bool x5]) rfl rfl (by kernel_rfl) (by kernel_rfl) (by kernel_rfl) (by kernel_rfl) (fun _ _ _ h => h) (by rfl) (fun _ => rfl) hS (fun w' hw => by obtain ⟨s0, s1, s2, s3, s4, s5, s6⟩ := hw; go_simp) ?_
  simp only [Act.put, List.setIfInBounds_toArray, List.set_cons_zero, List.set_cons_succ]
  refine wpAnyG_take (i := 3) (v := .pointer (some ⟨b, 0, none⟩)) rfl rfl (by kernel_rfl) (by kernel_rfl) (by kernel_rfl) (by kernel_rfl) (fun _ _ _ h => h) (by rfl) (fun _ => rfl) hS (fun w' hw => by obtain ⟨s0, s1, s2, s3, s4, s5, s6⟩ := hw; go_simp) ?_
  simp only [Act.put, List.setIfInBounds_toArray, List.set_cons_zero, List.set_cons_succ]
  refine wpAnyG_take (i := 4) (v := .pointer (some ⟨b, 0, none⟩)) rfl rfl (by kernel_rfl) (by kernel_rfl) (by kernel_rfl) (by kernel_rfl) (fun _ _ _ h => h) (by rfl) (fun _ => rfl) hS (fun w' hw => by obtain ⟨s0, s1, s2, s3, s4, s5, s6⟩ := hw; go_simp) ?_
  simp only [Act.put, List.setIfInBounds_toArray, List.set_cons_zero, List.set_cons_succ]
  refine wpAnyG_take (i := 5) (v := .pointer (some ⟨b, 29, none⟩)) rfl rfl (by kernel_rfl) (by kernel_rfl) (by kernel_rfl) (by kernel_rfl) (fun _ _ _ h => h) (by rfl) (fun _ => rfl) hS (fun w' hw => by obtain ⟨s0, s1, s2, s3, s4, s5, s6⟩ := hw; go_simp) ?_
  simp only [Act.put, List.setIfInBounds_toArray, List.set_cons_zero, List.set_cons_succ]
  refine wpAnyG_take (i := 6) (v := .slice A l.length n) rfl rfl (by kernel_rfl) (by kernel_rfl) (by kernel_rfl) (by kernel_rfl) (fun _ _ _ h => h) (by rfl) (fun _ => rfl) hS (fun w' hw => by obtain ⟨s0, s1, s2, s3, s4, s5, s6⟩ := hw; go_simp) ?_
  simp only [Act.put, List.setIfInBounds_toArray, List.set_cons_zero, List.set_cons_succ]
  refine wpAnyG_take (i := 7) (v := .int .i64 K) rfl rfl (by kernel_rfl) (by kernel_rfl) (by kernel_rfl) (by kernel_rfl) (fun _ _ _ h => h) (by rfl) (fun _ => rfl) hS (fun w' hw => by obtain ⟨s0, s1, s2, s3, s4, s5, s6⟩ := hw; go_simp) ?_
  simp only [Act.put, List.setIfInBounds_toArray, List.set_cons_zero, List.set_cons_succ]
  refine wpAnyG_take (i := 8) (v := .slice A1' (l.length - K) (n - K)) rfl rfl (by kernel_rfl) (by kernel_rfl) (by kernel_rfl) (by kernel_rfl) (fun _ _ _ h => h) (by rfl) (fun _ => rfl) hS (fun w' hw => by obtain ⟨s0, s1, s2, s3, s4, s5, s6⟩ := hw; go_simp) ?_
  simp only [Act.put, List.setIfInBounds_toArray, List.set_cons_zero, List.set_cons_succ]
  refine wpAnyG_take (i := 9) (v := .pointer (some ⟨b, 0, none⟩)) rfl rfl (by kernel_rfl) (by kernel_rfl) (by kernel_rfl) (by kernel_rfl) (fun _ _ _ h => h) (by rfl) (fun _ => rfl) hS (fun w' hw => by obtain ⟨s0, s1, s2, s3, s4, s5, s6⟩ := hw; go_simp) ?_
  simp only [Act.put, List.setIfInBounds_toArray, List.set_cons_zero, List.set_cons_succ]
  refine wpAnyG_take (i := 10) (v := .pointer (some ⟨b, 0, none⟩)) rfl rfl (by kernel_rfl) (by kernel_rfl) (by kernel_rfl) (by kernel_rfl) (fun _ _ _ h => h) (by rfl) (fun _ => rfl) hS (fun w' hw => by obtain ⟨s0, s1, s2, s3, s4, s5, s6⟩ := hw; go_simp) ?_
  simp only [Act.put, List.setIfInBounds_toArray, List.set_cons_zero, List.set_cons_succ]
  refine wpAnyG_take (i := 11) (v := .pointer (some ⟨b, 3, none⟩)) rfl rfl (by kernel_rfl) (by kernel_rfl) (by kernel_rfl) (by kernel_rfl) (fun _ _ _ h => h) (by rfl) (fun _ => rfl) hS (fun w' hw => by obtain ⟨s0, s1, s2, s3, s4, s5, s6⟩ := hw; go_simp) ?_
  simp only [Act.put, List.setIfInBounds_toArray, List.set_cons_zero, List.set_cons_succ]
  refine wpAnyG_one 12 rfl (by kernel_rfl) ?_
  obtain ⟨s0, s1, s2, s3, s4, s5, s6⟩ := hS
  have c3 := A4.out.cell 3 (.bool c.fl.nx) (fun _ _ _ _ => rfl)
  have c4 := A4.out.cell 4 (.bool c.fl.xx) (fun _ _ _ _ => rfl)
  have c5 := A4.out.cell 5 (.bool c.fl.gt) (fun _ _ _ _ => rfl)
  have c6 := A4.out.cell 6 (.bool c.fl.lt) (fun _ _ _ _ => rfl)
  have c7 := A4.out.cell 7 (.bool c.fl.ch) (fun _ _ _ _ => rfl)
  have c8 := A4.out.cell 8 (.bool c.fl.incr) (fun _ _ _ _ => rfl)
  have d3 := A4.out.frozen 3
  have d4 := A4.out.frozen 4
  have d5 := A4.out.frozen 5
  have d6 := A4.out.frozen 6
  have d7 := A4.out.frozen 7
  have d8 := A4.out.frozen 8
  gi_wp2
  have A5 := A4.out.put6 x0 x1 x2 x3 x4 x5
  have B5 := (((((B4.other (show fb ≠ b by omega) 3 (.bool x0)).other (show fb ≠ b by omega) 4 (.bool x1)).other (show fb ≠ b by omega) 5 (.bool x2)).other (show fb ≠ b by omega) 6 (.bool x3)).other (show fb ≠ b by omega) 7 (.bool x4)).other (show fb ≠ b by omega) 8 (.bool x5)
  have l5 : ((((((w4.setCell ⟨b, 3, none⟩ (.bool x0)).setCell ⟨b, 4, none⟩ (.bool x1)).setCell ⟨b, 5, none⟩ (.bool x2)).setCell ⟨b, 6, none⟩ (.bool x3)).setCell ⟨b, 7, none⟩ (.bool x4)).setCell ⟨b, 8, none⟩ (.bool x5)).cell? ⟨b, 29, none⟩ = some (.slice A l.length n) := by
    simp only [World.cell?_setCell_other _ _ _ _ (show ((⟨b, 8, none⟩ : Addr) ≠ ⟨b, 29, none⟩) by simp), World.cell?_setCell_other _ _ _ _ (show ((⟨b, 7, none⟩ : Addr) ≠ ⟨b, 29, none⟩) by simp), World.cell?_setCell_other _ _ _ _ (show ((⟨b, 6, none⟩ : Addr) ≠ ⟨b, 29, none⟩) by simp), World.cell?_setCell_other _ _ _ _ (show ((⟨b, 5, none⟩ : Addr) ≠ ⟨b, 29, none⟩) by simp), World.cell?_setCell_other _ _ _ _ (show ((⟨b, 4, none⟩ : Addr) ≠ ⟨b, 29, none⟩) by simp), World.cell?_setCell_other _ _ _ _ (show ((⟨b, 3, none⟩ : Addr) ≠ ⟨b, 29, none⟩) by simp)]
    exact s6
  have A5 := Lib.hid A5
  clear A4 B4 s0 s1 s2 s3 s4 s5 s6 c3 c4 c5 c6 c7 c8 d3 d4 d5 d6 d7 d8
  generalize World.setCell (World.setCell (World.setCell (World.setCell (World.setCell (World.setCell w4 _ _) _ _) _ _) _ _) _ _) ⟨b, 8, none⟩ (.bool x5) = w5 at A5 B5 l5 ⊢
  refine ⟨fun _ => ⟨B5.cell 0, B5.cell 1, B5.cell 2, B5.cell 3, B5.cell 4, B5.cell 5, l5⟩, ?_⟩
  have d29 := A5.out.frozen 29
  have hn29 : L.length ≤ n - K := by have := HL.out; have := HS.out.few.1; omega
  have A6 := Lib.hid (A5.out.cut (n' := n - K) hn29 hL2 HM.out HD.out)
  have x5c : w5.cell? ⟨fb, 5, none⟩ = some (.bool x5) := B5.cell 5
  rw [← HL.out]
  refine wpAnyG_from 13 (by rfl) (by kernel_rfl) (by omega) ?_
  gi_wp2
  have B6 := B5.other (show fb ≠ b by omega) 29 (.slice A1' L.length (n - K))
  have hl6 : (w5.setCell ⟨b, 29, none⟩ (.slice A1' L.length (n - K))).cell? ⟨b, 29, none⟩ = some (.slice A1' L.length (n - K)) := World.cell?_setCell_same _ _ _ l5
  have A7 := Lib.hid A6.out
  clear A5 A6 B5 l5 d29 x5c hcut
  generalize w5.setCell ⟨b, 29, none⟩ (.slice A1' L.length (n - K)) = w6 at A7 B6 hl6 ⊢
  have x6c : w6.cell? ⟨fb, 5, none⟩ = some (.bool x5) := B6.cell 5
  have hm9 : (L.length : Int) < 1000 := by omega
  by_cases h2 : L.length < 2
  · have HRB := Lib.hid (show R = bad 172 from by rw [← HRR.out, if_pos (.inl h2)])
    have h2z : (L.length : Int) < 2 := by omega
    clear h2
    go_wp2_with fail
    refine (first_calls 172 (by decide) _ _ (by rw [World.cell?_alloc_at _ _ _ _ (by simp)]; rfl)).mono ?_
    rintro e w8 ⟨rfl, rfl⟩
    rw [show refV 172 = .iface 74 (.agg #[.int .i64 172]) from rfl]
    go_wp2
    go_ret
    rw [HRB.out]
    exact (A7.out.box _).bad (by decide)
  · have h2z : ¬ (L.length : Int) < 2 := by omega
    have h2z' : (2 : Int) ≤ (L.length : Int) := by omega
    by_cases ho : L.length % 2 = 1
    · have HRB := Lib.hid (show R = bad 172 from by rw [← HRR.out, if_pos (.inr (.inl ho))])
      have hoz : ((L.length : Int) % 2 == 1) = true := by rw [beq_iff_eq]; omega
      clear h2 ho
      go_wp2_with fail
      refine (first_calls 172 (by decide) _ _ (by rw [World.cell?_alloc_at _ _ _ _ (by simp)]; rfl)).mono ?_
      rintro e w8 ⟨rfl, rfl⟩
      rw [show refV 172 = .iface 74 (.agg #[.int .i64 172]) from rfl]
      go_wp2
      go_ret
      rw [HRB.out]
      exact (A7.out.box _).bad (by decide)
    · have hoz : ((L.length : Int) % 2 == 1) = false := by rw [beq_eq_false_iff_ne]; omega
      cases x5 with
      | true =>
        by_cases h3 : 2 < L.length
        · have HRB := Lib.hid (show R = bad 172 from by rw [← HRR.out, if_pos (.inr (.inr ⟨rfl, h3⟩))])
          have h3z : (2 : Int) < (L.length : Int) := by omega
          clear h2 ho h3
          go_wp2_with fail
          refine (first_calls 172 (by decide) _ _ (by rw [World.cell?_alloc_at _ _ _ _ (by simp)]; rfl)).mono ?_
          rintro e w8 ⟨rfl, rfl⟩
          rw [show refV 172 = .iface 74 (.agg #[.int .i64 172]) from rfl]
          go_wp2
          go_ret
          rw [HRB.out]
          exact (A7.out.box _).bad (by decide)
        · have HRP := Lib.hid (show pairsZ _ L = R from by have := HRR.out; rwa [if_neg (by omega)] at this)
          have h3z : ¬ (2 : Int) < (L.length : Int) := by omega
          clear HRR
          go_wp2
          go_loopg [] L.length (fun gg wr => ∃ (c' : Cm) (l' : List ByteArray), l'.length ≤ gg ∧ l'.length % 2 = 0 ∧ Aside0 (At w0 w b c' l' wr ∧ pairsZ c' l' = R))
          case atStart => exact ⟨_, L, Nat.le_refl _, by omega, ⟨A7.out, HRP.out⟩⟩
          case round =>
            obtain ⟨c', l', hg, hev, HA⟩ := hrel
            clear hl6 x6c B6
            rcases l' with _ | ⟨s, _ | ⟨m, l''⟩⟩
            · obtain ⟨A9, n9, hl9⟩ := HA.out.1.left
              have HQ := Lib.hid (show (0, c', []) = R from by have := HA.out.2; rwa [pairsZ] at this)
              go_wp2
              go_ret
              rw [← HQ.out]
              exact HA.out.1.ok
            · simp at hev
            · obtain ⟨A9, n9, hl9⟩ := HA.out.1.left
              have hl9' : wr.cell? ⟨b, 29, none⟩ = some (.slice A9 (l''.length + 2) n9) := hl9
              have hln : l''.length < 1000 := by have := HA.out.1.1.few.1; simp at this; omega
              have hg' := hg
              rw [List.length_cons, List.length_cons] at hg'
              have hev' : l''.length % 2 = 0 := by simp at hev; omega
              have HC := Lib.hid (pair_calls HA.out.1.1)
              clear hl9 hg hev
              cases hnu : numA s with
              | none =>
                have HQ := Lib.hid (show bad 173 = R from by have := HA.out.2; rwa [pairsZ_none hnu] at this)
                have HC2 := HC.out
                rw [pairZ_none hnu] at HC2
                have HC2 := Lib.hid HC2
                clear hnu HC
                go_wp2_with fail
                refine HC2.out.mono ?_
                rintro e w9 h9
                obtain ⟨rfl, h93, h94, _⟩ := h9
                have H9 := Lib.hid (show _ ∧ _ from ⟨h93, HA.out.1.2.trans h94⟩)
                clear h93 h94 HC2
                rw [show refV (bad 173).1 = .iface 74 (.agg #[.int .i64 173]) from rfl]
                go_wp2
                go_ret
                rw [← HQ.out]
                exact postE_bad (by decide) H9.out.1 H9.out.2
              | some nn =>
                by_cases hm : m.size ≤ 64
                · have HQ := Lib.hid (show pairsZ (c'.addE [⟨m, nn⟩]) l'' = R from by have := HA.out.2; rwa [pairsZ_ok hnu hm] at this)
                  have HC2 := HC.out
                  rw [pairZ_ok hnu hm] at HC2
                  have HC2 := Lib.hid HC2
                  clear hnu HC hm
                  go_wp2_with fail
                  refine HC2.out.mono ?_
                  rintro e w9 h9
                  obtain ⟨rfl, h93, h94, h95⟩ := h9
                  have H9 := Aside0.mk (⟨⟨h95 rfl, HA.out.1.2.trans h94⟩, HQ.out⟩ : At w0 w b (c'.addE [⟨m, nn⟩]) l'' w9 ∧ pairsZ (c'.addE [⟨m, nn⟩]) l'' = R)
                  clear h93 h94 h95 HC2
                  rw [show refV ((0, c'.addE [⟨m, nn⟩], l'') : Rz).1 = .nilIface from rfl]
                  go_wp2
                  go_roundg l''.length
                  case measure => omega
                  case rel => exact ⟨_, l'', Nat.le_refl _, hev', H9⟩
                · have HQ := Lib.hid (show bad 172 = R from by have := HA.out.2; rwa [pairsZ_no hnu hm] at this)
                  have HC2 := HC.out
                  rw [pairZ_no hnu hm] at HC2
                  have HC2 := Lib.hid HC2
                  clear hnu HC hm
                  go_wp2_with fail
                  refine HC2.out.mono ?_
                  rintro e w9 h9
                  obtain ⟨rfl, h93, h94, _⟩ := h9
                  have H9 := Lib.hid (show _ ∧ _ from ⟨h93, HA.out.1.2.trans h94⟩)
                  clear h93 h94 HC2
                  rw [show refV (bad 172).1 = .iface 74 (.agg #[.int .i64 172]) from rfl]
                  go_wp2
                  go_ret
                  rw [← HQ.out]
                  exact postE_bad (by decide) H9.out.1 H9.out.2
      | false =>
        have HRP := Lib.hid (show pairsZ _ L = R from by have := HRR.out; rwa [if_neg (by simp; omega)] at this)
        clear HRR
        go_wp2
        go_loopg [] L.length (fun gg wr => ∃ (c' : Cm) (l' : List ByteArray), l'.length ≤ gg ∧ l'.length % 2 = 0 ∧ Aside0 (At w0 w b c' l' wr ∧ pairsZ c' l' = R))
        case atStart => exact ⟨_, L, Nat.le_refl _, by omega, ⟨A7.out, HRP.out⟩⟩
        case round =>
          obtain ⟨c', l', hg, hev, HA⟩ := hrel
          clear hl6 x6c B6
          rcases l' with _ | ⟨s, _ | ⟨m, l''⟩⟩
          · obtain ⟨A9, n9, hl9⟩ := HA.out.1.left
            have HQ := Lib.hid (show (0, c', []) = R from by have := HA.out.2; rwa [pairsZ] at this)
            go_wp2
            go_ret
            rw [← HQ.out]
            exact HA.out.1.ok
          · simp at hev
          · obtain ⟨A9, n9, hl9⟩ := HA.out.1.left
            have hl9' : wr.cell? ⟨b, 29, none⟩ = some (.slice A9 (l''.length + 2) n9) := hl9
            have hln : l''.length < 1000 := by have := HA.out.1.1.few.1; simp at this; omega
            have hg' := hg
            rw [List.length_cons, List.length_cons] at hg'
            have hev' : l''.length % 2 = 0 := by simp at hev; omega
            have HC := Lib.hid (pair_calls HA.out.1.1)
            clear hl9 hg hev
            cases hnu : numA s with
            | none =>
              have HQ := Lib.hid (show bad 173 = R from by have := HA.out.2; rwa [pairsZ_none hnu] at this)
              have HC2 := HC.out
              rw [pairZ_none hnu] at HC2
              have HC2 := Lib.hid HC2
              clear hnu HC
              go_wp2_with fail
              refine HC2.out.mono ?_
              rintro e w9 h9
              obtain ⟨rfl, h93, h94, _⟩ := h9
              have H9 := Lib.hid (show _ ∧ _ from ⟨h93, HA.out.1.2.trans h94⟩)
              clear h93 h94 HC2
              rw [show refV (bad 173).1 = .iface 74 (.agg #[.int .i64 173]) from rfl]
              go_wp2
              go_ret
              rw [← HQ.out]
              exact postE_bad (by decide) H9.out.1 H9.out.2
            | some nn =>
              by_cases hm : m.size ≤ 64
              · have HQ := Lib.hid (show pairsZ (c'.addE [⟨m, nn⟩]) l'' = R from by have := HA.out.2; rwa [pairsZ_ok hnu hm] at this)
                have HC2 := HC.out
                rw [pairZ_ok hnu hm] at HC2
                have HC2 := Lib.hid HC2
                clear hnu HC hm
                go_wp2_with fail
                refine HC2.out.mono ?_
                rintro e w9 h9
                obtain ⟨rfl, h93, h94, h95⟩ := h9
                have H9 := Aside0.mk (⟨⟨h95 rfl, HA.out.1.2.trans h94⟩, HQ.out⟩ : At w0 w b (c'.addE [⟨m, nn⟩]) l'' w9 ∧ pairsZ (c'.addE [⟨m, nn⟩]) l'' = R)
                clear h93 h94 h95 HC2
                rw [show refV ((0, c'.addE [⟨m, nn⟩], l'') : Rz).1 = .nilIface from rfl]
                go_wp2
                go_roundg l''.length
                case measure => omega
                case rel => exact ⟨_, l'', Nat.le_refl _, hev', H9⟩
              · have HQ := Lib.hid (show bad 172 = R from by have := HA.out.2; rwa [pairsZ_no hnu hm] at this)
                have HC2 := HC.out
                rw [pairZ_no hnu hm] at HC2
                have HC2 := Lib.hid HC2
                clear hnu HC hm
                go_wp2_with fail
                refine HC2.out.mono ?_
                rintro e w9 h9
                obtain ⟨rfl, h93, h94, _⟩ := h9
                have H9 := Lib.hid (show _ ∧ _ from ⟨h93, HA.out.1.2.trans h94⟩)
                clear h93 h94 HC2
                rw [show refV (bad 172).1 = .iface 74 (.agg #[.int .i64 172]) from rfl]
                go_wp2
                go_ret
                rw [← HQ.out]
                exact postE_bad (by decide) H9.out.1 H9.out.2
end
end Go.Proofs.YtegmbgjolnbgpaaDoor.P
