/- The law 'FlagsBack': a call of it answers true, at any six flags. Conditions: none. -/
import Derived.Test.YtndjbhibajjaoaaPH9
import Derived.Test.YtndjbhibajjaoaaPx7
import Derived.Test.YtndjbhibajjaoaaPx3
import Derived.Laws.MakeOwn
namespace Go.Proofs.Ytndjbhibajjaoaa.P
open Go.RowKit Go.Shelf Go.Proofs.YtndjbhibajjaoaaW.PrintWords Go.Proofs.YtndjbhibajjaoaaW.PrintLast Go.Proofs.YtndjbhibajjaoaaW.PrintMore

def score : ByteArray := ⟨#[115, 99, 111, 114, 101]⟩
/-- What is read of the words that are written. -/
def backR (a b c d e f : Bool) : Option (Bool × Bool × Bool × Bool × Bool × Bool × Int × Int) := if flags_Right.f a b c d e f = some true then some (a, b, c, d, e, f, ((outW (flN a b c d e f) 6).length : Int), 0) else some (false, false, false, false, false, false, 0, 110)
def sameR : Option (Bool × Bool × Bool × Bool × Bool × Bool × Int × Int) → Option (Bool × Bool × Bool × Bool × Bool × Bool × Int × Int) → Bool
  | some (a1, a2, a3, a4, a5, a6, a7, a8), some (b1, b2, b3, b4, b5, b6, b7, b8) => a1 == b1 && a2 == b2 && a3 == b3 && a4 == b4 && a5 == b5 && a6 == b6 && a7 == b7 && a8 == b8
  | _, _ => false
theorem sameR_eq {x y : Option (Bool × Bool × Bool × Bool × Bool × Bool × Int × Int)} (h : sameR x y = true) : x = y := by
  cases x with
  | none => cases h
  | some x =>
    cases y with
    | none => cases h
    | some y =>
      obtain ⟨a1, a2, a3, a4, a5, a6, a7, a8⟩ := x
      obtain ⟨b1, b2, b3, b4, b5, b6, b7, b8⟩ := y
      simp only [sameR, Bool.and_eq_true, beq_iff_eq] at h
      obtain ⟨⟨⟨⟨⟨⟨⟨rfl, rfl⟩, rfl⟩, rfl⟩, rfl⟩, rfl⟩, rfl⟩, rfl⟩ := h
      rfl
theorem back_read_ : ∀ a b c d e f : Bool, sameR (flags_Read.f (outW (flN a b c d e f) 6)) (backR a b c d e f) = true := by decide +kernel
theorem back_more_ : ∀ a b c d e f : Bool, sameR (flags_Read.f (outW (flN a b c d e f) 6 ++ [score])) (backR a b c d e f) = true := by decide +kernel
theorem back_read (a b c d e f : Bool) : flags_Read.f (outW (flN a b c d e f) 6) = backR a b c d e f := sameR_eq (back_read_ a b c d e f)
theorem back_more (a b c d e f : Bool) : flags_Read.f (outW (flN a b c d e f) 6 ++ [score]) = backR a b c d e f := sameR_eq (back_more_ a b c d e f)
theorem texts_same : ∀ a b c d e f : Bool, palioref04_Texts.f 20 (outW (flN a b c d e f) 6) (outW (flN a b c d e f) 6) = some true := by decide +kernel
theorem shown_b : paliolaw12_shown.f = some true := by decide +kernel
theorem append_row (w0 W : World) {ops : Array Oper} {rest : List Oper} {o : Oper} {a : Act} {Q : Exit → Act → World → Prop} (hgd : o.guard = none) (x y : Operand) (ho : o.op = .call { callee := .builtin .append, args := #[x, y], argTypes := #[31, 31] })
    (v : Value) (xs ys : List ByteArray) (A : Option Addr) (m c : Nat) (hs : a.eval x = v) (hx : a.eval y = .slice A m c) (HO : Kd.R Kd.string 9 W w0.heap.size (fun _ => True) v xs) (HR : Kd.C Kd.string W A m ys) (HB : Below w0.heap.size w0 W) (hl : xs.length + m ≤ 2000)
    (h : ∀ v1 w1, Kd.R Kd.string 9 w1 w0.heap.size (fun _ => True) v1 (xs ++ ys) → Below w0.heap.size w0 w1 → wpList Try.prog ops Q rest (a.put o.dst v1) w1) :
    wpList Try.prog ops Q (o :: rest) a W :=
  Kd.R_append_row Value.string ByteArray.empty (w0 := w0) w0.heap.size hgd x y 31 9 (.string ⟨#[]⟩) 16 ho Try.underlying31 info9s rfl (by decide) v xs ys A m c (fun _ => True) hs hx (fun _ _ => trivial) HO HR HB HB.size (by omega) (fun v1 w1 h1 h2 _ _ => h v1 w1 h1 h2)
theorem append_one (w0 W : World) {ops : Array Oper} {rest : List Oper} {o : Oper} {a : Act} {Q : Exit → Act → World → Prop} (hgd : o.guard = none) (x y : Operand) (ho : o.op = .call { callee := .builtin .append, args := #[x, y], argTypes := #[31, 31] })
    (v : Value) (out : List ByteArray) (p : ByteArray) (hs : a.eval x = v) (hx : a.eval y = .slice (some ⟨W.heap.size, 0, none⟩) 1 1)
    (HO : Kd.R Kd.string 9 W w0.heap.size (fun _ => True) v out) (HB : Below w0.heap.size w0 W) (hl : out.length ≤ 2000)
    (h : ∀ v1 w1, Kd.R Kd.string 9 w1 w0.heap.size (fun _ => True) v1 (out ++ [p]) → Below w0.heap.size w0 w1 → wpList Try.prog ops Q rest (a.put o.dst v1) w1) :
    wpList Try.prog ops Q (o :: rest) a (W.alloc (.cells #[.string p] 9)) :=
  Kd.R_append Kd.string (w0 := w0) (W := W) w0.heap.size hgd x y 31 9 (.string ⟨#[]⟩) 16 ho Try.underlying31 info9s rfl (Nat.lt_succ_self 0) (by omega) v out p [.string p] (fun _ => True) (fun _ => False) hs hx rfl (fun _ hk => hk.elim) (fun _ _ => trivial) HO HB HB.size (by omega)
    (fun v1 w1 h1 h2 _ _ => h v1 w1 h1 h2)
/-- Twelve empty texts, made. -/
def mk12 : Obj := .cells (madeCells #[.string ⟨#[]⟩] 12) 9
theorem make12 (W : World) : (Instr.makeSlice 31 (.int .i64 0) (.int .i64 12)).run Try.prog W = .ok (.slice (some ⟨W.heap.size, 0, none⟩) 0 12) (W.alloc mk12) := by
  obtain ⟨i0, hi, hz0, hz1, hz2⟩ := info_parts info9s
  have := run_make W 31 9 i0 (.string ⟨#[]⟩) Try.underlying31 hi hz0 .i64 .i64 0 12 (by omega) (by omega) (by rw [hz2]; omega) (by omega)
  have e : (Value.string ⟨#[]⟩).cells = #[Value.string ⟨#[]⟩] := rfl
  simpa [hz1, e, mk12] using this
theorem made12 (W : World) : Kd.R Kd.string 9 (W.alloc mk12) W.heap.size (fun _ => True) (.slice (some ⟨W.heap.size, 0, none⟩) 0 12) [] := by
  have h := World.ownsRow_made (e := 9) (size := 1) W (madeCells #[.string ⟨#[]⟩] 12) 12 (base := W.heap.size) (Nat.le_refl _) (by decide) (by simp [size_madeCells])
  exact ⟨fun _ _ => trivial, [], h, ⟨rfl, fun j p hj => by simp at hj⟩⟩
set_option maxHeartbeats 8000000 in
set_option maxRecDepth 100000 in
theorem back_no (x0 x1 x2 x3 x4 x5 : Bool) (hr : flags_Right.f x0 x1 x2 x3 x4 x5 = some false) (w : World) :
    Calls Try.prog 8 #[.agg #[.bool x0, .bool x1, .bool x2, .bool x3, .bool x4, .bool x5]] w fun e w' => e = .returned (.bool true) ∧ Below w.heap.size w w' := by
  have hread := back_read x0 x1 x2 x3 x4 x5
  unfold backR at hread
  rw [if_neg (by rw [hr]; simp)] at hread
  have HR := Aside0.mk hr
  have HD := Aside0.mk hread
  clear hr hread
  go_enter Try.func8, Try.ntmps8
  go_wp2_with fail
  refine (paliolaw12_shown.calls _ _ shown_b).mono ?_
  rintro e w1 ⟨rfl, hb1⟩
  have B0 := (Blk.new w 23 #[.bool x0, .bool x1, .bool x2, .bool x3, .bool x4, .bool x5]).below hb1
  have HB := Aside0.mk ((below_alloc (Below.refl _ w) (.cells #[.bool x0, .bool x1, .bool x2, .bool x3, .bool x4, .bool x5] 23)).trans (hb1.mono (by simp)))
  have p0 : w1.cell? ⟨w.heap.size, 0, none⟩ = some (.bool x0) := B0.cell 0
  have p1 : w1.cell? ⟨w.heap.size, 1, none⟩ = some (.bool x1) := B0.cell 1
  have p2 : w1.cell? ⟨w.heap.size, 2, none⟩ = some (.bool x2) := B0.cell 2
  have p3 : w1.cell? ⟨w.heap.size, 3, none⟩ = some (.bool x3) := B0.cell 3
  have p4 : w1.cell? ⟨w.heap.size, 4, none⟩ = some (.bool x4) := B0.cell 4
  have p5 : w1.cell? ⟨w.heap.size, 5, none⟩ = some (.bool x5) := B0.cell 5
  have HB0 := Aside0.mk B0
  clear B0 hb1
  go_wp2_with fail
  refine (flags_Write.calls _ _ _ _ _ _ _ _ rfl).mono ?_
  rintro e w2 ⟨v, rfl, hv, hb2⟩
  obtain ⟨A, c, rfl, hc, hC⟩ := Kd.R_reads hv
  have B0 := HB0.out.below hb2
  have HB2 := Aside0.mk (HB.out.trans (hb2.mono HB.out.size))
  clear HB0 HB hb2 hv p0 p1 p2 p3 p4 p5
  have HB0 := Aside0.mk B0
  clear B0
  go_wp2_with fail
  refine (flags_Read.calls _ _ _ _ _ _ _ _ _ _ _ _ hC hc HD.out).mono ?_
  rintro e w3 ⟨rfl, hb3⟩
  have B0 := HB0.out.below hb3
  have HB3 := Aside0.mk (HB2.out.trans (hb3.mono HB2.out.size))
  have hz := B0.lt
  have p0 : w3.cell? ⟨w.heap.size, 0, none⟩ = some (.bool x0) := B0.cell 0
  have p1 : w3.cell? ⟨w.heap.size, 1, none⟩ = some (.bool x1) := B0.cell 1
  have p2 : w3.cell? ⟨w.heap.size, 2, none⟩ = some (.bool x2) := B0.cell 2
  have p3 : w3.cell? ⟨w.heap.size, 3, none⟩ = some (.bool x3) := B0.cell 3
  have p4 : w3.cell? ⟨w.heap.size, 4, none⟩ = some (.bool x4) := B0.cell 4
  have p5 : w3.cell? ⟨w.heap.size, 5, none⟩ = some (.bool x5) := B0.cell 5
  have HB0 := Aside0.mk B0
  clear B0 hb3 hC hc HB2
  go_wp2_with fail
  refine (flags_Right.calls _ _ _ _ _ _ _ _ HR.out).mono ?_
  rintro e w4 ⟨rfl, hb4⟩
  have hz4 := hb4.size
  have q0 := (hb4.cell (p := ⟨w3.heap.size, 0, none⟩) (by simp)).trans (by simp : _ = some (.bool false))
  have q1 := (hb4.cell (p := ⟨w3.heap.size, 1, none⟩) (by simp)).trans (by simp : _ = some (.bool false))
  have q2 := (hb4.cell (p := ⟨w3.heap.size, 2, none⟩) (by simp)).trans (by simp : _ = some (.bool false))
  have q3 := (hb4.cell (p := ⟨w3.heap.size, 3, none⟩) (by simp)).trans (by simp : _ = some (.bool false))
  have q4 := (hb4.cell (p := ⟨w3.heap.size, 4, none⟩) (by simp)).trans (by simp : _ = some (.bool false))
  have q5 := (hb4.cell (p := ⟨w3.heap.size, 5, none⟩) (by simp)).trans (by simp : _ = some (.bool false))
  have HB4 := Aside0.mk ((below_alloc HB3.out (.cells #[.bool false, .bool false, .bool false, .bool false, .bool false, .bool false] 23)).trans (hb4.mono (by have := HB3.out.size; simp; omega)))
  clear hb4
  go_wp2
  go_ret
  exact ⟨rfl, HB4.out⟩
set_option maxHeartbeats 8000000 in
set_option maxRecDepth 100000 in
theorem back_yes (x0 x1 x2 x3 x4 x5 : Bool) (hr : flags_Right.f x0 x1 x2 x3 x4 x5 = some true) (w : World) :
    Calls Try.prog 8 #[.agg #[.bool x0, .bool x1, .bool x2, .bool x3, .bool x4, .bool x5]] w fun e w' => e = .returned (.bool true) ∧ Below w.heap.size w w' := by
  have hread := back_read x0 x1 x2 x3 x4 x5
  unfold backR at hread
  rw [if_pos hr] at hread
  have hmore := back_more x0 x1 x2 x3 x4 x5
  unfold backR at hmore
  rw [if_pos hr] at hmore
  have HR := Aside0.mk hr
  have HD := Aside0.mk hread
  have HM := Aside0.mk hmore
  have HT := Aside0.mk (texts_same x0 x1 x2 x3 x4 x5)
  have hwl := outW_len (flN x0 x1 x2 x3 x4 x5) 6
  have HW := Aside0.mk (show flags_Write.f x0 x1 x2 x3 x4 x5 = some (outW (flN x0 x1 x2 x3 x4 x5) 6) from rfl)
  clear hr hread hmore
  generalize outW (flN x0 x1 x2 x3 x4 x5) 6 = ws at HD HM HT hwl HW
  go_enter Try.func8, Try.ntmps8
  go_wp2_with fail
  refine (paliolaw12_shown.calls _ _ shown_b).mono ?_
  rintro e w1 ⟨rfl, hb1⟩
  have B0 := (Blk.new w 23 #[.bool x0, .bool x1, .bool x2, .bool x3, .bool x4, .bool x5]).below hb1
  have HB := Aside0.mk ((below_alloc (Below.refl _ w) (.cells #[.bool x0, .bool x1, .bool x2, .bool x3, .bool x4, .bool x5] 23)).trans (hb1.mono (by simp)))
  have p0 : w1.cell? ⟨w.heap.size, 0, none⟩ = some (.bool x0) := B0.cell 0
  have p1 : w1.cell? ⟨w.heap.size, 1, none⟩ = some (.bool x1) := B0.cell 1
  have p2 : w1.cell? ⟨w.heap.size, 2, none⟩ = some (.bool x2) := B0.cell 2
  have p3 : w1.cell? ⟨w.heap.size, 3, none⟩ = some (.bool x3) := B0.cell 3
  have p4 : w1.cell? ⟨w.heap.size, 4, none⟩ = some (.bool x4) := B0.cell 4
  have p5 : w1.cell? ⟨w.heap.size, 5, none⟩ = some (.bool x5) := B0.cell 5
  have HB0 := Aside0.mk B0
  clear B0 hb1
  go_wp2_with fail
  refine (flags_Write.calls _ _ _ _ _ _ _ _ HW.out).mono ?_
  rintro e w2 ⟨v, rfl, hv, hb2⟩
  obtain ⟨A, c, rfl, hc, hC⟩ := Kd.R_reads hv
  have B0 := HB0.out.below hb2
  have HB2 := Aside0.mk (HB.out.trans (hb2.mono HB.out.size))
  clear HB0 HB hb2 hv p0 p1 p2 p3 p4 p5
  have HB0 := Aside0.mk B0
  clear B0
  go_wp2_with fail
  refine (flags_Read.calls _ _ _ _ _ _ _ _ _ _ _ _ hC hc HD.out).mono ?_
  rintro e w3 ⟨rfl, hb3⟩
  have B0 := HB0.out.below hb3
  have HB3 := Aside0.mk (HB2.out.trans (hb3.mono HB2.out.size))
  have hz := B0.lt
  have p0 : w3.cell? ⟨w.heap.size, 0, none⟩ = some (.bool x0) := B0.cell 0
  have p1 : w3.cell? ⟨w.heap.size, 1, none⟩ = some (.bool x1) := B0.cell 1
  have p2 : w3.cell? ⟨w.heap.size, 2, none⟩ = some (.bool x2) := B0.cell 2
  have p3 : w3.cell? ⟨w.heap.size, 3, none⟩ = some (.bool x3) := B0.cell 3
  have p4 : w3.cell? ⟨w.heap.size, 4, none⟩ = some (.bool x4) := B0.cell 4
  have p5 : w3.cell? ⟨w.heap.size, 5, none⟩ = some (.bool x5) := B0.cell 5
  have HB0 := Aside0.mk B0
  have HC := Aside0.mk (Kd.C_below hC hb3)
  have HCc := Aside0.mk hc
  clear B0 hb3 hC hc HB2
  go_wp2_with fail
  refine (flags_Right.calls _ _ _ _ _ _ _ _ HR.out).mono ?_
  rintro e w4 ⟨rfl, hb4⟩
  have BA := (Blk.new w3 23 #[.bool x0, .bool x1, .bool x2, .bool x3, .bool x4, .bool x5]).below hb4
  have BP := (HB0.out.alloc (.cells #[.bool x0, .bool x1, .bool x2, .bool x3, .bool x4, .bool x5] 23)).below hb4
  have HC4 := Aside0.mk (Kd.C_below HC.out ((below_alloc (Below.refl _ w3) (.cells #[.bool x0, .bool x1, .bool x2, .bool x3, .bool x4, .bool x5] 23)).trans (hb4.mono (by simp))))
  have HB4 := Aside0.mk ((below_alloc HB3.out (.cells #[.bool x0, .bool x1, .bool x2, .bool x3, .bool x4, .bool x5] 23)).trans (hb4.mono (by have := HB3.out.size; simp; omega)))
  have HBA := Aside0.mk BA
  have HBP := Aside0.mk BP
  clear hb4 BA BP HB0 HC HB3 p0 p1 p2 p3 p4 p5
  have hmk := make12
  have HM0 := Aside0.mk (made12 w4)
  have HM1 := Aside0.mk (below_alloc (Below.refl _ w4) mk12)
  have HM2 := Aside0.mk (Kd.C_below HC4.out HM1.out)
  go_wp2_with (first | ((with_reducible refine gate_builtin (b := .append) (xs := #[.tmp 38, .tmp 39]) rfl ?_); at_builtin; refine append_row w4 _ rfl (.tmp 38) (.tmp 39) rfl (.slice (some ⟨w4.heap.size, 0, none⟩) 0 12) [] ws A ws.length c rfl rfl HM0.out HM2.out HM1.out (by simp only [List.length_nil]; omega) ?_; intro v1 w5 hR5 hB5; have HR5 := Aside0.mk hR5; have HB5 := Aside0.mk hB5; clear hR5 hB5) | ((with_reducible refine gate_builtin (b := .append) (xs := #[.tmp 40, .tmp 41]) rfl ?_); at_builtin; refine append_one w4 w5 rfl (.tmp 40) (.tmp 41) rfl v1 ([] ++ ws) score rfl rfl HR5.out HB5.out (by simp only [List.nil_append]; omega) ?_; intro v2 w6 hR6 hB6; simp only [List.nil_append] at hR6; generalize ws ++ [score] = ws2 at hR6 HM; obtain ⟨A6, c6, rfl, hc6, hC6⟩ := Kd.R_reads hR6; have HB6 := Aside0.mk hB6; have HC6 := Aside0.mk hC6; have HCc6 := Aside0.mk hc6; clear hR6 hB6 hC6 hc6))
  refine (flags_Read.calls _ _ _ _ _ _ _ _ _ _ _ _ HC6.out HCc6.out HM.out).mono ?_
  rintro e w7 ⟨rfl, hb7⟩
  have hB7 : Below w4.heap.size w4 w7 := HB6.out.trans (hb7.mono HB6.out.size)
  have BA := HBA.out.below hB7
  have BP := HBP.out.below hB7
  have HC7 := Aside0.mk (Kd.C_below HC4.out hB7)
  have HB7 := Aside0.mk (HB4.out.trans (hB7.mono HB4.out.size))
  have hz7 : w.heap.size < w7.heap.size := BP.lt
  have hz73 : w3.heap.size < w7.heap.size := BA.lt
  have p0 : w7.cell? ⟨w.heap.size, 0, none⟩ = some (.bool x0) := BP.cell 0
  have p1 : w7.cell? ⟨w.heap.size, 1, none⟩ = some (.bool x1) := BP.cell 1
  have p2 : w7.cell? ⟨w.heap.size, 2, none⟩ = some (.bool x2) := BP.cell 2
  have p3 : w7.cell? ⟨w.heap.size, 3, none⟩ = some (.bool x3) := BP.cell 3
  have p4 : w7.cell? ⟨w.heap.size, 4, none⟩ = some (.bool x4) := BP.cell 4
  have p5 : w7.cell? ⟨w.heap.size, 5, none⟩ = some (.bool x5) := BP.cell 5
  have q0 : w7.cell? ⟨w3.heap.size, 0, none⟩ = some (.bool x0) := BA.cell 0
  have q1 : w7.cell? ⟨w3.heap.size, 1, none⟩ = some (.bool x1) := BA.cell 1
  have q2 : w7.cell? ⟨w3.heap.size, 2, none⟩ = some (.bool x2) := BA.cell 2
  have q3 : w7.cell? ⟨w3.heap.size, 3, none⟩ = some (.bool x3) := BA.cell 3
  have q4 : w7.cell? ⟨w3.heap.size, 4, none⟩ = some (.bool x4) := BA.cell 4
  have q5 : w7.cell? ⟨w3.heap.size, 5, none⟩ = some (.bool x5) := BA.cell 5
  clear hB7 BA BP hb7
  go_wp2_with fail
  refine (flags_Write.calls _ _ _ _ _ _ _ _ HW.out).mono ?_
  rintro e w8 ⟨v8, rfl, hv8, hb8⟩
  obtain ⟨A8, c8, rfl, hc8, hC8⟩ := Kd.R_reads hv8
  have hb78 := (below_alloc (Below.refl _ w7) (.cells #[.bool x0, .bool x1, .bool x2, .bool x3, .bool x4, .bool x5] 23)).trans (hb8.mono (by simp))
  have HC8 := Aside0.mk (Kd.C_below HC7.out hb78)
  have HB8 := Aside0.mk (HB7.out.trans (hb78.mono (by omega)))
  have HA8 := Aside0.mk hC8
  have HA8c := Aside0.mk hc8
  clear hb78 hb8 hC8 hc8 hv8
  go_wp2_with fail
  refine (palioref04_Texts.calls 20 _ _ _ _ _ _ _ _ HA8.out HA8c.out HC8.out HCc.out HT.out).mono ?_
  rintro e w9 ⟨rfl, hd⟩
  obtain ⟨nd, rfl⟩ := hd
  go_wp2
  go_ret
  exact ⟨rfl, pw_below_drewN HB8.out _⟩
def paliolaw12_FlagsBack.f (_a0_0 _a0_1 _a0_2 _a0_3 _a0_4 _a0_5 : Bool) : Option Bool := some true
theorem paliolaw12_FlagsBack.calls (a0_0 a0_1 a0_2 a0_3 a0_4 a0_5 : Bool) (r : Bool) (w : World) (h : paliolaw12_FlagsBack.f a0_0 a0_1 a0_2 a0_3 a0_4 a0_5 = some r) :
    Calls Try.prog 8 #[.agg #[.bool a0_0, .bool a0_1, .bool a0_2, .bool a0_3, .bool a0_4, .bool a0_5]] w fun e w' => e = .returned (.bool r) ∧ Below w.heap.size w w' := by
  obtain rfl : true = r := Option.some.inj h
  cases hr : flags_Right.f a0_0 a0_1 a0_2 a0_3 a0_4 a0_5 with
  | none => simp [flags_Right.f] at hr
  | some ok =>
    cases ok
    · exact back_no _ _ _ _ _ _ hr w
    · exact back_yes _ _ _ _ _ _ hr w
end Go.Proofs.Ytndjbhibajjaoaa.P
