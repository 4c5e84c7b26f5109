/- palioref17.Same of one command, laid twice. Conditions: that its rows may be read. -/
import Derived.Test.YtegmbgjolnbgpaaDoorCO
import Derived.Test.YtegmbgjolnbgpaaDoorPx2
import Derived.IntWalk
namespace Go.Proofs.YtegmbgjolnbgpaaDoor.P
open Go.RowKit Go.Shelf Go.Proofs.YtegmbgjolnbgpaaDoorW.PrintWords Go.Proofs.YtegmbgjolnbgpaaDoorW.PrintLast Go.Proofs.YtegmbgjolnbgpaaDoorW.PrintMore
attribute [local go_sem] Oper.semAt_some
set_option linter.unusedSimpArgs false

theorem wrap_up {n i : Nat} (hn : n ≤ 9223372036854775807) (hi : i < n) : wrap64 ((i : Int) + 1) = ((i + 1 : Nat) : Int) := by
  unfold wrap64
  omega
theorem texts_l0 (l : List ByteArray) (hn : l.length ≤ 9223372036854775807) : ∀ (m i : Nat), i + m = l.length → palioref17_texts.l0 (m + 1) l l (i : Int) = some true
  | 0, i, h => by rw [palioref17_texts.l0, if_neg (by omega)]
  | m + 1, i, h => by rw [palioref17_texts.l0, if_pos (by omega), if_pos (by omega), if_pos (by omega), if_pos rfl, wrap_up hn (by omega)]; exact texts_l0 l hn m (i + 1) (by omega)
theorem texts_same (l : List ByteArray) (hn : l.length ≤ 9223372036854775807) : palioref17_texts.f (l.length + 1) l l = some true := by
  rw [palioref17_texts.f, if_pos rfl]
  exact texts_l0 l hn l.length 0 (by omega)
theorem entries_l0 (l : List S43) (hn : l.length ≤ 9223372036854775807) : ∀ (m i : Nat), i + m = l.length → palioref17_entries.l0 (m + 1) l l (i : Int) = some true
  | 0, i, h => by rw [palioref17_entries.l0, if_neg (by omega)]
  | m + 1, i, h => by rw [palioref17_entries.l0, if_pos (by omega), if_pos (by omega), if_pos (by omega), if_neg (by simp), wrap_up hn (by omega)]; exact entries_l0 l hn m (i + 1) (by omega)
theorem entries_same (l : List S43) (hn : l.length ≤ 9223372036854775807) : palioref17_entries.f (l.length + 1) l l = some true := by
  rw [palioref17_entries.f, if_pos rfl]
  exact entries_l0 l hn l.length 0 (by omega)
theorem numbers_l0 (l : List Int) (hn : l.length ≤ 9223372036854775807) : ∀ (m i : Nat), i + m = l.length → palioref17_numbers.l0 (m + 1) l l (i : Int) = some true
  | 0, i, h => by rw [palioref17_numbers.l0, if_neg (by omega)]
  | m + 1, i, h => by rw [palioref17_numbers.l0, if_pos (by omega), if_pos (by omega), if_pos (by omega), if_pos rfl, wrap_up hn (by omega)]; exact numbers_l0 l hn m (i + 1) (by omega)
theorem numbers_same (l : List Int) (hn : l.length ≤ 9223372036854775807) : palioref17_numbers.f (l.length + 1) l l = some true := by
  rw [palioref17_numbers.f, if_pos rfl]
  exact numbers_l0 l hn l.length 0 (by omega)
/-- A command's rows may be read. -/
structure RdC (w : World) (c : Cm) (vk ve vw : Value) : Prop where
  k : ∃ A n, vk = .slice A c.keys.length n ∧ c.keys.length ≤ n ∧ Kd.C Kd.string w A c.keys.length c.keys
  e : ∃ A n, ve = .slice A c.ents.length n ∧ c.ents.length ≤ n ∧ Kd.C k43 w A c.ents.length c.ents
  w : ∃ A n, vw = .slice A c.ws.length n ∧ c.ws.length ≤ n ∧ Kd.C (Kd.int .i64) w A c.ws.length c.ws
theorem RdC.of {w : World} {m : Nat} {c : Cm} {vk ve vw : Value} (h1 : RK w m vk c.keys) (h2 : RE w m ve c.ents) (h3 : RW w m vw c.ws) : RdC w c vk ve vw := ⟨Kd.R_reads h1, Kd.R_reads h2, Kd.R_reads h3⟩
theorem RdC.below {w w' : World} {c : Cm} {vk ve vw : Value} (h : RdC w c vk ve vw) (hb : Below w.heap.size w w') : RdC w' c vk ve vw := by
  obtain ⟨⟨A1, n1, e1, l1, c1⟩, ⟨A2, n2, e2, l2, c2⟩, ⟨A3, n3, e3, l3, c3⟩⟩ := h
  exact ⟨⟨A1, n1, e1, l1, Kd.C_below c1 hb⟩, ⟨A2, n2, e2, l2, Kd.C_below c2 hb⟩, ⟨A3, n3, e3, l3, Kd.C_below c3 hb⟩⟩
set_option maxHeartbeats 16000000 in
set_option maxRecDepth 100000 in
theorem Same_calls (c : Cm) (w : World) (vk ve vw uk ue uw : Value) (h : RdC w c vk ve vw) (k : RdC w c uk ue uw) : Calls Tryd.prog 10 #[.agg (cmCells c vk ve vw), .agg (cmCells c uk ue uw)] w fun e w' => e = .returned (.bool true) ∧ Below w.heap.size w w' := by
  obtain ⟨⟨A1, n1, rfl, l1, c1⟩, ⟨A2, n2, rfl, l2, c2⟩, ⟨A3, n3, rfl, l3, c3⟩⟩ := h
  obtain ⟨⟨B1, m1, rfl, k1, d1⟩, ⟨B2, m2, rfl, k2, d2⟩, ⟨B3, m3, rfl, k3, d3⟩⟩ := k
  obtain ⟨w1, hw1, b1, X1⟩ : ∃ w1, w.alloc (.cells (cmCells c (.slice A1 c.keys.length n1) (.slice A2 c.ents.length n2) (.slice A3 c.ws.length n3)) 35) = w1 ∧ Below w.heap.size w w1 ∧ Blk w1 w.heap.size 35 (cmCells c (.slice A1 c.keys.length n1) (.slice A2 c.ents.length n2) (.slice A3 c.ws.length n3)) := ⟨_, rfl, below_box w _, Blk.new w _ _⟩
  obtain ⟨w2, hw2, b2, X2⟩ : ∃ w2, w1.alloc (.cells (cmCells c (.slice B1 c.keys.length m1) (.slice B2 c.ents.length m2) (.slice B3 c.ws.length m3)) 35) = w2 ∧ Below w1.heap.size w1 w2 ∧ Blk w2 w1.heap.size 35 (cmCells c (.slice B1 c.keys.length m1) (.slice B2 c.ents.length m2) (.slice B3 c.ws.length m3)) := ⟨_, rfl, below_box w1 _, Blk.new w1 _ _⟩
  have hs1 : w1.heap.size = w.heap.size + 1 := by rw [← hw1]; simp
  rw [← hw1] at hw2
  rw [hs1] at X2
  have hb12 := b1.trans (b2.mono b1.size)
  have X1 := X1.below b2
  have C1 := Lib.hid (Kd.C_below c1 hb12)
  have C2 := Lib.hid (Kd.C_below c2 hb12)
  have C3 := Lib.hid (Kd.C_below c3 hb12)
  have D1 := Lib.hid (Kd.C_below d1 hb12)
  have D2 := Lib.hid (Kd.C_below d2 hb12)
  have D3 := Lib.hid (Kd.C_below d3 hb12)
  have T1 := Lib.hid (texts_same c.keys (Kd.C_max c1))
  have T2 := Lib.hid (entries_same c.ents (Kd.C_max c2))
  have T3 := Lib.hid (numbers_same c.ws (Kd.C_max c3))
  have L := Lib.hid (And.intro (And.intro l1 (And.intro l2 l3)) (And.intro k1 (And.intro k2 k3)))
  have X1 := Lib.hid X1
  have X2 := Lib.hid X2
  have HB := Lib.hid hb12
  have HW := Lib.hid hw2
  clear c1 c2 c3 d1 d2 d3 b1 b2 hb12 hw2 hw1 hs1 l1 l2 l3 k1 k2 k3
  unfold cmCells
  go_enter Tryd.func10, Tryd.ntmps10
  go_upto_region 1 with (fail)
  refine wp_at HW.out ?_
  clear HW
  have a1 : w2.cell? ⟨w.heap.size, 1, none⟩ = some (.slice A1 c.keys.length n1) := X1.out.cell 1
  have e1 : w2.cell? ⟨w.heap.size + 1, 1, none⟩ = some (.slice B1 c.keys.length m1) := X2.out.cell 1
  go_wp2_with fail
  refine (palioref17_texts.calls _ A1 n1 c.keys B1 m1 c.keys true w2 C1.out L.out.1.1 D1.out L.out.2.1 T1.out).mono ?_
  rintro e w3 ⟨rfl, b3⟩
  have b3 := b3.below
  have X1 := Lib.hid (X1.out.below b3)
  have X2 := Lib.hid (X2.out.below b3)
  have C2 := Lib.hid (Kd.C_below C2.out b3)
  have C3 := Lib.hid (Kd.C_below C3.out b3)
  have D2 := Lib.hid (Kd.C_below D2.out b3)
  have D3 := Lib.hid (Kd.C_below D3.out b3)
  have HB := Lib.hid (HB.out.trans (b3.mono HB.out.size))
  clear a1 e1 b3 C1 D1 T1
  have a1 : w3.cell? ⟨w.heap.size, 2, none⟩ = some (.slice A2 c.ents.length n2) := X1.out.cell 2
  have e1 : w3.cell? ⟨w.heap.size + 1, 2, none⟩ = some (.slice B2 c.ents.length m2) := X2.out.cell 2
  go_wp2_with fail
  refine (palioref17_entries.calls _ A2 n2 c.ents B2 m2 c.ents true w3 C2.out L.out.1.2.1 D2.out L.out.2.2.1 T2.out).mono ?_
  rintro e w4 ⟨rfl, b3⟩
  have b3 := b3.below
  have X1 := Lib.hid (X1.out.below b3)
  have X2 := Lib.hid (X2.out.below b3)
  have C3 := Lib.hid (Kd.C_below C3.out b3)
  have D3 := Lib.hid (Kd.C_below D3.out b3)
  have HB := Lib.hid (HB.out.trans (b3.mono HB.out.size))
  clear a1 e1 b3 C2 D2 T2
  have a1 : w4.cell? ⟨w.heap.size, 28, none⟩ = some (.slice A3 c.ws.length n3) := X1.out.cell 28
  have e1 : w4.cell? ⟨w.heap.size + 1, 28, none⟩ = some (.slice B3 c.ws.length m3) := X2.out.cell 28
  go_wp2_with fail
  refine (palioref17_numbers.calls _ A3 n3 c.ws B3 m3 c.ws true w4 C3.out L.out.1.2.2 D3.out L.out.2.2.2 T3.out).mono ?_
  rintro e w5 ⟨rfl, b3⟩
  have b3 := b3.below
  have X1 := X1.out.below b3
  have X2 := X2.out.below b3
  have HB := Lib.hid (HB.out.trans (b3.mono HB.out.size))
  clear a1 e1 b3 C3 D3 T3 L
  have a0 : w5.cell? ⟨w.heap.size, 0, none⟩ = some (.string c.name) := X1.cell 0
  have e0 : w5.cell? ⟨w.heap.size + 1, 0, none⟩ = some (.string c.name) := X2.cell 0
  have a3 : w5.cell? ⟨w.heap.size, 3, none⟩ = some (.bool c.fl.nx) := X1.cell 3
  have e3 : w5.cell? ⟨w.heap.size + 1, 3, none⟩ = some (.bool c.fl.nx) := X2.cell 3
  have a4 : w5.cell? ⟨w.heap.size, 4, none⟩ = some (.bool c.fl.xx) := X1.cell 4
  have e4 : w5.cell? ⟨w.heap.size + 1, 4, none⟩ = some (.bool c.fl.xx) := X2.cell 4
  have a5 : w5.cell? ⟨w.heap.size, 5, none⟩ = some (.bool c.fl.gt) := X1.cell 5
  have e5 : w5.cell? ⟨w.heap.size + 1, 5, none⟩ = some (.bool c.fl.gt) := X2.cell 5
  have a6 : w5.cell? ⟨w.heap.size, 6, none⟩ = some (.bool c.fl.lt) := X1.cell 6
  have e6 : w5.cell? ⟨w.heap.size + 1, 6, none⟩ = some (.bool c.fl.lt) := X2.cell 6
  have a7 : w5.cell? ⟨w.heap.size, 7, none⟩ = some (.bool c.fl.ch) := X1.cell 7
  have e7 : w5.cell? ⟨w.heap.size + 1, 7, none⟩ = some (.bool c.fl.ch) := X2.cell 7
  have a8 : w5.cell? ⟨w.heap.size, 8, none⟩ = some (.bool c.fl.incr) := X1.cell 8
  have e8 : w5.cell? ⟨w.heap.size + 1, 8, none⟩ = some (.bool c.fl.incr) := X2.cell 8
  have a9 : w5.cell? ⟨w.heap.size, 9, none⟩ = some (.int .i64 c.fr.n) := X1.cell 9
  have e9 : w5.cell? ⟨w.heap.size + 1, 9, none⟩ = some (.int .i64 c.fr.n) := X2.cell 9
  have a10 : w5.cell? ⟨w.heap.size, 10, none⟩ = some (.bool c.fr.out) := X1.cell 10
  have e10 : w5.cell? ⟨w.heap.size + 1, 10, none⟩ = some (.bool c.fr.out) := X2.cell 10
  have a11 : w5.cell? ⟨w.heap.size, 11, none⟩ = some (.int .i64 c.fr.inf) := X1.cell 11
  have e11 : w5.cell? ⟨w.heap.size + 1, 11, none⟩ = some (.int .i64 c.fr.inf) := X2.cell 11
  have a12 : w5.cell? ⟨w.heap.size, 12, none⟩ = some (.int .i64 c.tt.n) := X1.cell 12
  have e12 : w5.cell? ⟨w.heap.size + 1, 12, none⟩ = some (.int .i64 c.tt.n) := X2.cell 12
  have a13 : w5.cell? ⟨w.heap.size, 13, none⟩ = some (.bool c.tt.out) := X1.cell 13
  have e13 : w5.cell? ⟨w.heap.size + 1, 13, none⟩ = some (.bool c.tt.out) := X2.cell 13
  have a14 : w5.cell? ⟨w.heap.size, 14, none⟩ = some (.int .i64 c.tt.inf) := X1.cell 14
  have e14 : w5.cell? ⟨w.heap.size + 1, 14, none⟩ = some (.int .i64 c.tt.inf) := X2.cell 14
  have a15 : w5.cell? ⟨w.heap.size, 15, none⟩ = some (.string c.lo.s) := X1.cell 15
  have e15 : w5.cell? ⟨w.heap.size + 1, 15, none⟩ = some (.string c.lo.s) := X2.cell 15
  have a16 : w5.cell? ⟨w.heap.size, 16, none⟩ = some (.bool c.lo.out) := X1.cell 16
  have e16 : w5.cell? ⟨w.heap.size + 1, 16, none⟩ = some (.bool c.lo.out) := X2.cell 16
  have a17 : w5.cell? ⟨w.heap.size, 17, none⟩ = some (.int .i64 c.lo.inf) := X1.cell 17
  have e17 : w5.cell? ⟨w.heap.size + 1, 17, none⟩ = some (.int .i64 c.lo.inf) := X2.cell 17
  have a18 : w5.cell? ⟨w.heap.size, 18, none⟩ = some (.string c.hi.s) := X1.cell 18
  have e18 : w5.cell? ⟨w.heap.size + 1, 18, none⟩ = some (.string c.hi.s) := X2.cell 18
  have a19 : w5.cell? ⟨w.heap.size, 19, none⟩ = some (.bool c.hi.out) := X1.cell 19
  have e19 : w5.cell? ⟨w.heap.size + 1, 19, none⟩ = some (.bool c.hi.out) := X2.cell 19
  have a20 : w5.cell? ⟨w.heap.size, 20, none⟩ = some (.int .i64 c.hi.inf) := X1.cell 20
  have e20 : w5.cell? ⟨w.heap.size + 1, 20, none⟩ = some (.int .i64 c.hi.inf) := X2.cell 20
  have a21 : w5.cell? ⟨w.heap.size, 21, none⟩ = some (.int .i64 c.n) := X1.cell 21
  have e21 : w5.cell? ⟨w.heap.size + 1, 21, none⟩ = some (.int .i64 c.n) := X2.cell 21
  have a22 : w5.cell? ⟨w.heap.size, 22, none⟩ = some (.int .i64 c.m) := X1.cell 22
  have e22 : w5.cell? ⟨w.heap.size + 1, 22, none⟩ = some (.int .i64 c.m) := X2.cell 22
  have a23 : w5.cell? ⟨w.heap.size, 23, none⟩ = some (.int .u32 c.cur) := X1.cell 23
  have e23 : w5.cell? ⟨w.heap.size + 1, 23, none⟩ = some (.int .u32 c.cur) := X2.cell 23
  have a24 : w5.cell? ⟨w.heap.size, 24, none⟩ = some (.string c.pat) := X1.cell 24
  have e24 : w5.cell? ⟨w.heap.size + 1, 24, none⟩ = some (.string c.pat) := X2.cell 24
  have a25 : w5.cell? ⟨w.heap.size, 25, none⟩ = some (.bool c.sc) := X1.cell 25
  have e25 : w5.cell? ⟨w.heap.size + 1, 25, none⟩ = some (.bool c.sc) := X2.cell 25
  have a26 : w5.cell? ⟨w.heap.size, 26, none⟩ = some (.bool c.tu) := X1.cell 26
  have e26 : w5.cell? ⟨w.heap.size + 1, 26, none⟩ = some (.bool c.tu) := X2.cell 26
  have a27 : w5.cell? ⟨w.heap.size, 27, none⟩ = some (.int .i64 c.agg) := X1.cell 27
  have e27 : w5.cell? ⟨w.heap.size + 1, 27, none⟩ = some (.int .i64 c.agg) := X2.cell 27
  clear X1 X2
  go_wp2
  go_ret
  exact ⟨rfl, HB.out⟩
end Go.Proofs.YtegmbgjolnbgpaaDoor.P
