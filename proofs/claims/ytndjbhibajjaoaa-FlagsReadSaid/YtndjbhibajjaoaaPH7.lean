/- What the document's 'Read' answers: the flags of the words that a list begins with. Conditions: that the list has at most a thousand words, of at most a thousand bytes. -/
import Derived.Test.YtndjbhibajjaoaaPH8
import Derived.Test.YtndjbhibajjaoaaPx2
namespace Go.Proofs.Ytndjbhibajjaoaa.P
open Go.RowKit Go.Shelf Go.Proofs.YtndjbhibajjaoaaW.PrintWords Go.Proofs.YtndjbhibajjaoaaW.PrintLast Go.Proofs.YtndjbhibajjaoaaW.PrintMore

/-- A text in capitals, by the document. -/
def rup (s : ByteArray) : List UInt8 := s.data.toList.map fun b => (cap b.toNat).toUInt8
def RefUp : Prop := ∀ s : ByteArray, s.size ≤ 1000 → ∃ k, palioref12_Upper.f k s = some ⟨(rup s).toArray⟩
/-- Which of the words a text is, in the document's capitals. -/
def rix (s : ByteArray) : Option (Fin 6) := (List.finRange 6).find? (fun k => decide (rup s = wl k))
theorem rix_some {s : ByteArray} {k : Fin 6} (h : rix s = some k) : rup s = wl k := by
  have := List.find?_some h
  exact of_decide_eq_true this
theorem rix_none {s : ByteArray} (h : rix s = none) (k : Fin 6) : rup s ≠ wl k := by
  unfold rix at h
  rw [List.find?_eq_none] at h
  have := h k (List.mem_finRange k)
  simpa using this
def rnw : List ByteArray → List (Fin 6)
  | [] => []
  | s :: r => match rix s with
    | some k => k :: rnw r
    | none => []
theorem rnw_cons {l : List ByteArray} {j : Nat} {s : ByteArray} (h : j < l.length) (hs : rdOf ByteArray.empty l (j : Int) = s) : rnw (l.drop j) = match rix s with
    | some k => k :: rnw (l.drop (j + 1))
    | none => [] := by
  have h2 : l.drop j = s :: l.drop (j + 1) := by
    rw [List.drop_eq_getElem_cons h]
    congr 1
    rw [← hs, rdOf, Int.toNat_natCast, List.getD_eq_getElem?_getD, List.getElem?_eq_getElem h]
    rfl
  rw [h2, rnw]
theorem wl_inj : ∀ i k : Fin 6, wl i = wl k → i = k := by decide
/-- A comparison of the word with one of the six. -/
def hit (U : List UInt8) (i : Nat) : Bool := U == wl i
theorem hit_at {s : ByteArray} {k : Fin 6} (h : rup s = wl k) (i : Fin 6) : hit (rup s) i = decide (i = k) := by
  rw [h]
  exact (by decide : ∀ i k : Fin 6, hit (wl k) i = decide (i = k)) i k
theorem fls_hit {s : ByteArray} {k : Fin 6} (h : rup s = wl k) (pre : List (Fin 6)) : fls (pre ++ [k]) = #[.bool (decide ((0 : Fin 6) ∈ pre) || hit (rup s) 0), .bool (decide ((1 : Fin 6) ∈ pre) || hit (rup s) 1), .bool (decide ((2 : Fin 6) ∈ pre) || hit (rup s) 2), .bool (decide ((3 : Fin 6) ∈ pre) || hit (rup s) 3), .bool (decide ((4 : Fin 6) ∈ pre) || hit (rup s) 4), .bool (decide ((5 : Fin 6) ∈ pre) || hit (rup s) 5)] := by
  have e : ∀ i : Fin 6, decide (i ∈ pre ++ [k]) = (decide (i ∈ pre) || hit (rup s) i) := by
    intro i
    rw [hit_at h i]
    by_cases h1 : i ∈ pre <;> by_cases h2 : i = k <;> simp [h1, h2]
  unfold fls
  rw [e 0, e 1, e 2, e 3, e 4, e 5]
  rfl
theorem size_up (s : ByteArray) : (rup s).length = s.size := by
  unfold rup
  rw [List.length_map]
  rfl
set_option maxHeartbeats 16000000 in
set_option maxRecDepth 100000 in
theorem refread_calls (HU : RefUp) (l : List ByteArray) (hs : ∀ s ∈ l, s.size ≤ 1000) (A : Option Addr) (c : Nat) (w : World) (hC : Kd.C Kd.string w A l.length l) (hlen : l.length ≤ 1000) (ok : Bool) (hr : palioref12_Right.f (decide ((0 : Fin 6) ∈ rnw l)) (decide ((1 : Fin 6) ∈ rnw l)) (decide ((2 : Fin 6) ∈ rnw l)) (decide ((3 : Fin 6) ∈ rnw l)) (decide ((4 : Fin 6) ∈ rnw l)) (decide ((5 : Fin 6) ∈ rnw l)) = some ok) :
    Calls Try.prog 16 #[.slice A l.length c] w fun e w' => e = .returned (if ok = true then .tuple #[.agg (fls (rnw l)), .int .i64 (rnw l).length, .int .i64 0] else .tuple #[.agg (fls []), .int .i64 0, .int .i64 110]) ∧ Below w.heap.size w w' := by
  have HC := Aside0.mk hC
  have HR := Aside0.mk hr
  have HS := Aside0.mk hs
  have HUp := Aside0.mk HU
  clear hC hr hs HU
  go_enter Try.func16, Try.ntmps16
  go_wp2
  have b0 : Blk ((w.alloc (.cells #[.bool false, .bool false, .bool false, .bool false, .bool false, .bool false] 23)).alloc (.cells #[.bool false, .bool false, .bool false, .bool false, .bool false, .bool false] 23)) w.heap.size 23 (fls []) := (Blk.new w 23 _).alloc _
  have b1 : Blk ((w.alloc (.cells #[.bool false, .bool false, .bool false, .bool false, .bool false, .bool false] 23)).alloc (.cells #[.bool false, .bool false, .bool false, .bool false, .bool false, .bool false] 23)) (w.heap.size + 1) 23 (fls []) := by
    have := Blk.new (w.alloc (.cells #[.bool false, .bool false, .bool false, .bool false, .bool false, .bool false] 23)) 23 (fls [])
    rwa [World.size_alloc] at this
  have hB0 : Below w.heap.size w ((w.alloc (.cells #[.bool false, .bool false, .bool false, .bool false, .bool false, .bool false] 23)).alloc (.cells #[.bool false, .bool false, .bool false, .bool false, .bool false, .bool false] 23)) := below_alloc (below_alloc (Below.refl _ _) _) _
  have HB0 := Aside0.mk b0
  have HB1 := Aside0.mk b1
  have HBw := Aside0.mk hB0
  clear b0 b1 hB0
  go_loopg [6] l.length (fun gg v6 wr => ∃ (j : Nat) (pre : List (Fin 6)), v6 = .int .i64 j ∧ j ≤ l.length ∧ l.length - j ≤ gg ∧ Aside0 (pre.length = j ∧ pre ++ rnw (l.drop j) = rnw l) ∧ Aside0 (Blk wr w.heap.size 23 (fls [])) ∧ Aside0 (Blk wr (w.heap.size + 1) 23 (fls pre)) ∧ Aside0 (Below w.heap.size w wr))
  case atStart => exact ⟨0, [], rfl, Nat.zero_le _, by omega, ⟨rfl, rfl⟩, HB0, HB1, HBw⟩
  case round =>
    clear HB0 HB1 HBw
    obtain ⟨j, pre, rfl, hj, hg, HP, HB0, HB1, HBw⟩ := hrel
    have hend : j = l.length ∨ (j < l.length ∧ rix (rdOf ByteArray.empty l (j : Int)) = none) ∨ (j < l.length ∧ ∃ k, rix (rdOf ByteArray.empty l (j : Int)) = some k) := by
      by_cases h : j = l.length
      · exact .inl h
      · cases hx : rix (rdOf ByteArray.empty l (j : Int)) with
        | none => exact .inr (.inl ⟨by omega, rfl⟩)
        | some k => exact .inr (.inr ⟨by omega, k, rfl⟩)
    rcases hend with h | ⟨hlt, hk⟩ | ⟨hlt, k, hk⟩
    · have hj2 : l.drop j = [] := List.drop_of_length_le (by omega)
      have heq := HP.out.2
      rw [hj2] at heq
      replace heq : rnw l = pre := by simpa [rnw] using heq.symm
      clear hj2
      subst h
      have HE := Aside0.mk heq
      clear heq
      generalize hys : rnw l = ys at HR
      have HYS := Aside0.mk (hys.symm.trans HE.out)
      obtain rfl : ys = pre := HYS.out
      have q0 : wr.cell? ⟨w.heap.size + 1, 0, none⟩ = some (.bool (decide ((0 : Fin 6) ∈ ys))) := HB1.out.cell 0
      have q1 : wr.cell? ⟨w.heap.size + 1, 1, none⟩ = some (.bool (decide ((1 : Fin 6) ∈ ys))) := HB1.out.cell 1
      have q2 : wr.cell? ⟨w.heap.size + 1, 2, none⟩ = some (.bool (decide ((2 : Fin 6) ∈ ys))) := HB1.out.cell 2
      have q3 : wr.cell? ⟨w.heap.size + 1, 3, none⟩ = some (.bool (decide ((3 : Fin 6) ∈ ys))) := HB1.out.cell 3
      have q4 : wr.cell? ⟨w.heap.size + 1, 4, none⟩ = some (.bool (decide ((4 : Fin 6) ∈ ys))) := HB1.out.cell 4
      have q5 : wr.cell? ⟨w.heap.size + 1, 5, none⟩ = some (.bool (decide ((5 : Fin 6) ∈ ys))) := HB1.out.cell 5
      have hlt1 : w.heap.size + 1 < wr.heap.size := HB1.out.lt
      have hfl : fls ys = #[.bool (decide ((0 : Fin 6) ∈ ys)), .bool (decide ((1 : Fin 6) ∈ ys)), .bool (decide ((2 : Fin 6) ∈ ys)), .bool (decide ((3 : Fin 6) ∈ ys)), .bool (decide ((4 : Fin 6) ∈ ys)), .bool (decide ((5 : Fin 6) ∈ ys))] := rfl
      have HFL := Aside0.mk hfl
      clear hfl hys
      generalize decide ((0 : Fin 6) ∈ ys) = x0 at q0 HR HFL
      generalize decide ((1 : Fin 6) ∈ ys) = x1 at q1 HR HFL
      generalize decide ((2 : Fin 6) ∈ ys) = x2 at q2 HR HFL
      generalize decide ((3 : Fin 6) ∈ ys) = x3 at q3 HR HFL
      generalize decide ((4 : Fin 6) ∈ ys) = x4 at q4 HR HFL
      generalize decide ((5 : Fin 6) ∈ ys) = x5 at q5 HR HFL
      go_wp2_with fail
      refine (palioref12_Right.calls _ _ _ _ _ _ _ _ HR.out).mono ?_
      rintro e w2 ⟨rfl, hb2⟩
      have d0 := HB0.out.below hb2
      have hB2 : Below w.heap.size w w2 := HBw.out.trans (hb2.mono HBw.out.size)
      have hlt2 := hb2.size
      replace q0 := (hb2.cell (p := ⟨w.heap.size + 1, 0, none⟩) hlt1).trans q0
      replace q1 := (hb2.cell (p := ⟨w.heap.size + 1, 1, none⟩) hlt1).trans q1
      replace q2 := (hb2.cell (p := ⟨w.heap.size + 1, 2, none⟩) hlt1).trans q2
      replace q3 := (hb2.cell (p := ⟨w.heap.size + 1, 3, none⟩) hlt1).trans q3
      replace q4 := (hb2.cell (p := ⟨w.heap.size + 1, 4, none⟩) hlt1).trans q4
      replace q5 := (hb2.cell (p := ⟨w.heap.size + 1, 5, none⟩) hlt1).trans q5
      have z0 : w2.cell? ⟨w.heap.size, 0, none⟩ = some (.bool false) := d0.cell 0
      have z1 : w2.cell? ⟨w.heap.size, 1, none⟩ = some (.bool false) := d0.cell 1
      have z2 : w2.cell? ⟨w.heap.size, 2, none⟩ = some (.bool false) := d0.cell 2
      have z3 : w2.cell? ⟨w.heap.size, 3, none⟩ = some (.bool false) := d0.cell 3
      have z4 : w2.cell? ⟨w.heap.size, 4, none⟩ = some (.bool false) := d0.cell 4
      have z5 : w2.cell? ⟨w.heap.size, 5, none⟩ = some (.bool false) := d0.cell 5
      have y0 : w2.frozen? ⟨w.heap.size, 0, none⟩ = false := d0.frozen 0
      have y1 : w2.frozen? ⟨w.heap.size, 1, none⟩ = false := d0.frozen 1
      have y2 : w2.frozen? ⟨w.heap.size, 2, none⟩ = false := d0.frozen 2
      have y3 : w2.frozen? ⟨w.heap.size, 3, none⟩ = false := d0.frozen 3
      have y4 : w2.frozen? ⟨w.heap.size, 4, none⟩ = false := d0.frozen 4
      have y5 : w2.frozen? ⟨w.heap.size, 5, none⟩ = false := d0.frozen 5
      have HD0 := Aside0.mk d0
      clear hb2 d0 hlt2
      cases ok
      · go_wp2
        have HF := six_set HD0.out false false false false false false
        have r0 := HF.cell 0
        have r1 := HF.cell 1
        have r2 := HF.cell 2
        have r3 := HF.cell 3
        have r4 := HF.cell 4
        have r5 := HF.cell 5
        refine bodyPost_ret (v := .tuple #[.agg #[.bool false, .bool false, .bool false, .bool false, .bool false, .bool false], .int .i64 0, .int .i64 110]) ?_ rfl ⟨by simp [fls], six_below hB2 (Nat.le_refl _) _ _ _ _ _ _⟩
        simp [results, Try.results16, go_sem, r0, r1, r2, r3, r4, r5]
      · go_wp2
        have HF := six_set HD0.out x0 x1 x2 x3 x4 x5
        have r0 := HF.cell 0
        have r1 := HF.cell 1
        have r2 := HF.cell 2
        have r3 := HF.cell 3
        have r4 := HF.cell 4
        have r5 := HF.cell 5
        refine bodyPost_ret (v := .tuple #[.agg #[.bool x0, .bool x1, .bool x2, .bool x3, .bool x4, .bool x5], .int .i64 ys.length, .int .i64 0]) ?_ rfl ⟨by rw [HE.out, HFL.out], six_below hB2 (Nat.le_refl _) _ _ _ _ _ _⟩
        have HL := HP.out.1
        simp [results, Try.results16, go_sem, r0, r1, r2, r3, r4, r5, HL]
    · have hltz : (j : Int) < (l.length : Int) := by omega
      obtain ⟨ad, e, hx⟩ := Kd.at_string (Kd.C_below HC.out HBw.out) (j : Int) (by omega) hltz
      cases e
      rw [Int.toNat_natCast] at hx
      generalize hsx : rdOf ByteArray.empty l (j : Int) = s at hx hk
      have hsz := HS.out s (hsx ▸ rd_mem hlt)
      obtain ⟨ku, hku⟩ := HUp.out s hsz
      have hrn := rnw_cons hlt hsx
      rw [hk] at hrn
      have heq := HP.out.2
      rw [hrn] at heq
      replace heq : rnw l = pre := by simpa using heq.symm
      have hnh := rix_none hk
      have HNH := Aside0.mk hnh
      have HKU := Aside0.mk hku
      clear hsx hrn hnh hku hk
      have HE := Aside0.mk heq
      clear heq
      generalize hys : rnw l = ys at HR
      have HYS := Aside0.mk (hys.symm.trans HE.out)
      obtain rfl : ys = pre := HYS.out
      have q0 : wr.cell? ⟨w.heap.size + 1, 0, none⟩ = some (.bool (decide ((0 : Fin 6) ∈ ys))) := HB1.out.cell 0
      have q1 : wr.cell? ⟨w.heap.size + 1, 1, none⟩ = some (.bool (decide ((1 : Fin 6) ∈ ys))) := HB1.out.cell 1
      have q2 : wr.cell? ⟨w.heap.size + 1, 2, none⟩ = some (.bool (decide ((2 : Fin 6) ∈ ys))) := HB1.out.cell 2
      have q3 : wr.cell? ⟨w.heap.size + 1, 3, none⟩ = some (.bool (decide ((3 : Fin 6) ∈ ys))) := HB1.out.cell 3
      have q4 : wr.cell? ⟨w.heap.size + 1, 4, none⟩ = some (.bool (decide ((4 : Fin 6) ∈ ys))) := HB1.out.cell 4
      have q5 : wr.cell? ⟨w.heap.size + 1, 5, none⟩ = some (.bool (decide ((5 : Fin 6) ∈ ys))) := HB1.out.cell 5
      have hlt1 : w.heap.size + 1 < wr.heap.size := HB1.out.lt
      have hfl : fls ys = #[.bool (decide ((0 : Fin 6) ∈ ys)), .bool (decide ((1 : Fin 6) ∈ ys)), .bool (decide ((2 : Fin 6) ∈ ys)), .bool (decide ((3 : Fin 6) ∈ ys)), .bool (decide ((4 : Fin 6) ∈ ys)), .bool (decide ((5 : Fin 6) ∈ ys))] := rfl
      have HFL := Aside0.mk hfl
      clear hfl hys
      generalize decide ((0 : Fin 6) ∈ ys) = x0 at q0 HR HFL
      generalize decide ((1 : Fin 6) ∈ ys) = x1 at q1 HR HFL
      generalize decide ((2 : Fin 6) ∈ ys) = x2 at q2 HR HFL
      generalize decide ((3 : Fin 6) ∈ ys) = x3 at q3 HR HFL
      generalize decide ((4 : Fin 6) ∈ ys) = x4 at q4 HR HFL
      generalize decide ((5 : Fin 6) ∈ ys) = x5 at q5 HR HFL
      go_wp2_with fail
      refine (palioref12_Upper.calls _ _ _ _ HKU.out).mono ?_
      rintro e w9 ⟨rfl, hb9⟩
      replace HB0 := Aside0.mk (HB0.out.below hb9)
      replace HB1 := Aside0.mk (HB1.out.below hb9)
      replace HBw := Aside0.mk (HBw.out.trans (hb9.mono HBw.out.size))
      replace q0 := (hb9.cell (p := ⟨w.heap.size + 1, 0, none⟩) hlt1).trans q0
      replace q1 := (hb9.cell (p := ⟨w.heap.size + 1, 1, none⟩) hlt1).trans q1
      replace q2 := (hb9.cell (p := ⟨w.heap.size + 1, 2, none⟩) hlt1).trans q2
      replace q3 := (hb9.cell (p := ⟨w.heap.size + 1, 3, none⟩) hlt1).trans q3
      replace q4 := (hb9.cell (p := ⟨w.heap.size + 1, 4, none⟩) hlt1).trans q4
      replace q5 := (hb9.cell (p := ⟨w.heap.size + 1, 5, none⟩) hlt1).trans q5
      replace hlt1 : w.heap.size + 1 < w9.heap.size := Nat.lt_of_lt_of_le hlt1 hb9.size
      clear hb9 HKU hx
      generalize rup s = U at HNH ⊢
      have e0 : (U == [78, 88]) = false := beq_eq_false_iff_ne.mpr (HNH.out 0)
      have n0 : (U != [78, 88]) = true := by rw [bne_iff_ne]; exact HNH.out 0
      have e1 : (U == [88, 88]) = false := beq_eq_false_iff_ne.mpr (HNH.out 1)
      have n1 : (U != [88, 88]) = true := by rw [bne_iff_ne]; exact HNH.out 1
      have e2 : (U == [71, 84]) = false := beq_eq_false_iff_ne.mpr (HNH.out 2)
      have n2 : (U != [71, 84]) = true := by rw [bne_iff_ne]; exact HNH.out 2
      have e3 : (U == [76, 84]) = false := beq_eq_false_iff_ne.mpr (HNH.out 3)
      have n3 : (U != [76, 84]) = true := by rw [bne_iff_ne]; exact HNH.out 3
      have e4 : (U == [67, 72]) = false := beq_eq_false_iff_ne.mpr (HNH.out 4)
      have n4 : (U != [67, 72]) = true := by rw [bne_iff_ne]; exact HNH.out 4
      have e5 : (U == [73, 78, 67, 82]) = false := beq_eq_false_iff_ne.mpr (HNH.out 5)
      have n5 : (U != [73, 78, 67, 82]) = true := by rw [bne_iff_ne]; exact HNH.out 5
      go_wp2_with fail
      refine (palioref12_Right.calls _ _ _ _ _ _ _ _ HR.out).mono ?_
      rintro e w2 ⟨rfl, hb2⟩
      have d0 := HB0.out.below hb2
      have hB2 : Below w.heap.size w w2 := HBw.out.trans (hb2.mono HBw.out.size)
      have hlt2 := hb2.size
      replace q0 := (hb2.cell (p := ⟨w.heap.size + 1, 0, none⟩) hlt1).trans q0
      replace q1 := (hb2.cell (p := ⟨w.heap.size + 1, 1, none⟩) hlt1).trans q1
      replace q2 := (hb2.cell (p := ⟨w.heap.size + 1, 2, none⟩) hlt1).trans q2
      replace q3 := (hb2.cell (p := ⟨w.heap.size + 1, 3, none⟩) hlt1).trans q3
      replace q4 := (hb2.cell (p := ⟨w.heap.size + 1, 4, none⟩) hlt1).trans q4
      replace q5 := (hb2.cell (p := ⟨w.heap.size + 1, 5, none⟩) hlt1).trans q5
      have z0 : w2.cell? ⟨w.heap.size, 0, none⟩ = some (.bool false) := d0.cell 0
      have z1 : w2.cell? ⟨w.heap.size, 1, none⟩ = some (.bool false) := d0.cell 1
      have z2 : w2.cell? ⟨w.heap.size, 2, none⟩ = some (.bool false) := d0.cell 2
      have z3 : w2.cell? ⟨w.heap.size, 3, none⟩ = some (.bool false) := d0.cell 3
      have z4 : w2.cell? ⟨w.heap.size, 4, none⟩ = some (.bool false) := d0.cell 4
      have z5 : w2.cell? ⟨w.heap.size, 5, none⟩ = some (.bool false) := d0.cell 5
      have y0 : w2.frozen? ⟨w.heap.size, 0, none⟩ = false := d0.frozen 0
      have y1 : w2.frozen? ⟨w.heap.size, 1, none⟩ = false := d0.frozen 1
      have y2 : w2.frozen? ⟨w.heap.size, 2, none⟩ = false := d0.frozen 2
      have y3 : w2.frozen? ⟨w.heap.size, 3, none⟩ = false := d0.frozen 3
      have y4 : w2.frozen? ⟨w.heap.size, 4, none⟩ = false := d0.frozen 4
      have y5 : w2.frozen? ⟨w.heap.size, 5, none⟩ = false := d0.frozen 5
      have HD0 := Aside0.mk d0
      clear hb2 d0 hlt2
      cases ok
      · go_wp2
        have HF := six_set HD0.out false false false false false false
        have r0 := HF.cell 0
        have r1 := HF.cell 1
        have r2 := HF.cell 2
        have r3 := HF.cell 3
        have r4 := HF.cell 4
        have r5 := HF.cell 5
        refine bodyPost_ret (v := .tuple #[.agg #[.bool false, .bool false, .bool false, .bool false, .bool false, .bool false], .int .i64 0, .int .i64 110]) ?_ rfl ⟨by simp [fls], six_below hB2 (Nat.le_refl _) _ _ _ _ _ _⟩
        simp [results, Try.results16, go_sem, r0, r1, r2, r3, r4, r5]
      · go_wp2
        have HF := six_set HD0.out x0 x1 x2 x3 x4 x5
        have r0 := HF.cell 0
        have r1 := HF.cell 1
        have r2 := HF.cell 2
        have r3 := HF.cell 3
        have r4 := HF.cell 4
        have r5 := HF.cell 5
        refine bodyPost_ret (v := .tuple #[.agg #[.bool x0, .bool x1, .bool x2, .bool x3, .bool x4, .bool x5], .int .i64 ys.length, .int .i64 0]) ?_ rfl ⟨by rw [HE.out, HFL.out], six_below hB2 (Nat.le_refl _) _ _ _ _ _ _⟩
        have HL := HP.out.1
        simp [results, Try.results16, go_sem, r0, r1, r2, r3, r4, r5, HL]
    · have hltz : (j : Int) < (l.length : Int) := by omega
      obtain ⟨ad, e, hx⟩ := Kd.at_string (Kd.C_below HC.out HBw.out) (j : Int) (by omega) hltz
      cases e
      rw [Int.toNat_natCast] at hx
      generalize hsx : rdOf ByteArray.empty l (j : Int) = s at hx hk
      have hsz := HS.out s (hsx ▸ rd_mem hlt)
      obtain ⟨ku, hku⟩ := HUp.out s hsz
      have hrk := rix_some hk
      have hrn := rnw_cons hlt hsx
      rw [hk] at hrn
      have hfh := fls_hit hrk pre
      have h1h : ∀ i : Fin 6, hit (rup s) i = decide (i = k) := hit_at hrk
      have HRN := Aside0.mk hrn
      have HFH := Aside0.mk hfh
      have H1H := Aside0.mk h1h
      have HKU := Aside0.mk hku
      clear hsx hrk hrn hfh h1h hku hk
      go_wp2_with fail
      refine (palioref12_Upper.calls _ _ _ _ HKU.out).mono ?_
      rintro e w2 ⟨rfl, hb2⟩
      have HB02 := Aside0.mk (HB0.out.below hb2)
      have HB12 := Aside0.mk (HB1.out.below hb2)
      have HBw2 := Aside0.mk (HBw.out.trans (hb2.mono HBw.out.size))
      clear HB0 HB1 HBw hb2 HKU
      have hlU : (rup s).length = s.size := size_up s
      have HLU := Aside0.mk hlU
      clear hlU hx
      generalize rup s = U at HFH H1H HLU ⊢
      have e0 : (U == [78, 88]) = hit U 0 := rfl
      have n0 : (U != [78, 88]) = !(hit U 0) := rfl
      have e1 : (U == [88, 88]) = hit U 1 := rfl
      have n1 : (U != [88, 88]) = !(hit U 1) := rfl
      have e2 : (U == [71, 84]) = hit U 2 := rfl
      have n2 : (U != [71, 84]) = !(hit U 2) := rfl
      have e3 : (U == [76, 84]) = hit U 3 := rfl
      have n3 : (U != [76, 84]) = !(hit U 3) := rfl
      have e4 : (U == [67, 72]) = hit U 4 := rfl
      have n4 : (U != [67, 72]) = !(hit U 4) := rfl
      have e5 : (U == [73, 78, 67, 82]) = hit U 5 := rfl
      have n5 : (U != [73, 78, 67, 82]) = !(hit U 5) := rfl
      have hone : (hit U 0 = true ∧ hit U 1 = false ∧ hit U 2 = false ∧ hit U 3 = false ∧ hit U 4 = false ∧ hit U 5 = false) ∨ (hit U 0 = false ∧ hit U 1 = true ∧ hit U 2 = false ∧ hit U 3 = false ∧ hit U 4 = false ∧ hit U 5 = false) ∨ (hit U 0 = false ∧ hit U 1 = false ∧ hit U 2 = true ∧ hit U 3 = false ∧ hit U 4 = false ∧ hit U 5 = false) ∨ (hit U 0 = false ∧ hit U 1 = false ∧ hit U 2 = false ∧ hit U 3 = true ∧ hit U 4 = false ∧ hit U 5 = false) ∨ (hit U 0 = false ∧ hit U 1 = false ∧ hit U 2 = false ∧ hit U 3 = false ∧ hit U 4 = true ∧ hit U 5 = false) ∨ (hit U 0 = false ∧ hit U 1 = false ∧ hit U 2 = false ∧ hit U 3 = false ∧ hit U 4 = false ∧ hit U 5 = true) := by
        have h0 := H1H.out 0
        have h1 := H1H.out 1
        have h2 := H1H.out 2
        have h3 := H1H.out 3
        have h4 := H1H.out 4
        have h5 := H1H.out 5
        revert h0 h1 h2 h3 h4 h5
        obtain ⟨k, hk⟩ := k
        have h6 : k = 0 ∨ k = 1 ∨ k = 2 ∨ k = 3 ∨ k = 4 ∨ k = 5 := by omega
        rcases h6 with rfl | rfl | rfl | rfl | rfl | rfl <;> (intro h0 h1 h2 h3 h4 h5; first | exact .inl ⟨h0, h1, h2, h3, h4, h5⟩ | exact .inr (.inl ⟨h0, h1, h2, h3, h4, h5⟩) | exact .inr (.inr (.inl ⟨h0, h1, h2, h3, h4, h5⟩)) | exact .inr (.inr (.inr (.inl ⟨h0, h1, h2, h3, h4, h5⟩))) | exact .inr (.inr (.inr (.inr (.inl ⟨h0, h1, h2, h3, h4, h5⟩)))) | exact .inr (.inr (.inr (.inr (.inr ⟨h0, h1, h2, h3, h4, h5⟩)))))
      generalize hit U 0 = b0 at e0 n0 hone HFH
      generalize hx0 : decide ((0 : Fin 6) ∈ pre) = x0 at HFH
      generalize hit U 1 = b1 at e1 n1 hone HFH
      generalize hx1 : decide ((1 : Fin 6) ∈ pre) = x1 at HFH
      generalize hit U 2 = b2 at e2 n2 hone HFH
      generalize hx2 : decide ((2 : Fin 6) ∈ pre) = x2 at HFH
      generalize hit U 3 = b3 at e3 n3 hone HFH
      generalize hx3 : decide ((3 : Fin 6) ∈ pre) = x3 at HFH
      generalize hit U 4 = b4 at e4 n4 hone HFH
      generalize hx4 : decide ((4 : Fin 6) ∈ pre) = x4 at HFH
      generalize hit U 5 = b5 at e5 n5 hone HFH
      generalize hx5 : decide ((5 : Fin 6) ∈ pre) = x5 at HFH
      have hf0 : fls pre = #[.bool x0, .bool x1, .bool x2, .bool x3, .bool x4, .bool x5] := by unfold fls; rw [hx0, hx1, hx2, hx3, hx4, hx5]
      rw [hf0] at HB12
      have HONE := Aside0.mk hone
      clear hone hf0 hx0 hx1 hx2 hx3 hx4 hx5 H1H
      go_upto_region 5 with (fail)
      go_cut [38] (fun s38 wc => s38 = .bool false ∧ Aside0 (Blk wc w.heap.size 23 (fls [])) ∧ Aside0 (Blk wc (w.heap.size + 1) 23 #[.bool x0, .bool x1, .bool x2, .bool x3, .bool x4, .bool x5]) ∧ Aside0 (Below w.heap.size w wc))
      case first =>
        have hone := HONE.out
        clear HONE
        rcases hone with ⟨rfl, rfl, rfl, rfl, rfl, rfl⟩ | ⟨rfl, rfl, rfl, rfl, rfl, rfl⟩ | ⟨rfl, rfl, rfl, rfl, rfl, rfl⟩ | ⟨rfl, rfl, rfl, rfl, rfl, rfl⟩ | ⟨rfl, rfl, rfl, rfl, rfl, rfl⟩ | ⟨rfl, rfl, rfl, rfl, rfl, rfl⟩
        all_goals
          go_wp2
          go_meet
          exact ⟨rfl, HB02, HB12, HBw2⟩
      case rest =>
      clear HB02 HB12 HBw2
      obtain ⟨rfl, HB0, HB1, HBw⟩ := hcut
      have hc : wc.cell? ⟨w.heap.size + 1, 0, none⟩ = some (.bool x0) := HB1.out.cell 0
      have hfz : wc.frozen? ⟨w.heap.size + 1, 0, none⟩ = false := HB1.out.frozen 0
      go_upto_region 6 with (fail)
      go_cut [] (fun wc => Aside0 (Blk wc w.heap.size 23 (fls [])) ∧ Aside0 (Blk wc (w.heap.size + 1) 23 #[.bool (x0 || b0), .bool x1, .bool x2, .bool x3, .bool x4, .bool x5]) ∧ Aside0 (Below w.heap.size w wc))
      case first =>
        cases x0
        · cases b0
          all_goals
            go_wp2
            go_meet
            exact ⟨⟨HB0.out.other (by omega) _ _⟩, ⟨HB1.out.set 0 _⟩, ⟨HBw.out.setCell (p := ⟨w.heap.size + 1, 0, none⟩) (by simp) _⟩⟩
        · go_wp2
          go_meet
          exact ⟨⟨HB0.out.other (by omega) _ _⟩, ⟨HB1.out.set 0 _⟩, ⟨HBw.out.setCell (p := ⟨w.heap.size + 1, 0, none⟩) (by simp) _⟩⟩
      case rest =>
      clear HB0 HB1 HBw hc hfz
      obtain ⟨HB0, HB1, HBw⟩ := hcut
      have hc : wc.cell? ⟨w.heap.size + 1, 1, none⟩ = some (.bool x1) := HB1.out.cell 1
      have hfz : wc.frozen? ⟨w.heap.size + 1, 1, none⟩ = false := HB1.out.frozen 1
      go_upto_region 7 with (fail)
      go_cut [] (fun wc => Aside0 (Blk wc w.heap.size 23 (fls [])) ∧ Aside0 (Blk wc (w.heap.size + 1) 23 #[.bool (x0 || b0), .bool (x1 || b1), .bool x2, .bool x3, .bool x4, .bool x5]) ∧ Aside0 (Below w.heap.size w wc))
      case first =>
        cases x1
        · cases b1
          all_goals
            go_wp2
            go_meet
            exact ⟨⟨HB0.out.other (by omega) _ _⟩, ⟨HB1.out.set 1 _⟩, ⟨HBw.out.setCell (p := ⟨w.heap.size + 1, 1, none⟩) (by simp) _⟩⟩
        · go_wp2
          go_meet
          exact ⟨⟨HB0.out.other (by omega) _ _⟩, ⟨HB1.out.set 1 _⟩, ⟨HBw.out.setCell (p := ⟨w.heap.size + 1, 1, none⟩) (by simp) _⟩⟩
      case rest =>
      clear HB0 HB1 HBw hc hfz
      obtain ⟨HB0, HB1, HBw⟩ := hcut
      have hc : wc.cell? ⟨w.heap.size + 1, 2, none⟩ = some (.bool x2) := HB1.out.cell 2
      have hfz : wc.frozen? ⟨w.heap.size + 1, 2, none⟩ = false := HB1.out.frozen 2
      go_upto_region 8 with (fail)
      go_cut [] (fun wc => Aside0 (Blk wc w.heap.size 23 (fls [])) ∧ Aside0 (Blk wc (w.heap.size + 1) 23 #[.bool (x0 || b0), .bool (x1 || b1), .bool (x2 || b2), .bool x3, .bool x4, .bool x5]) ∧ Aside0 (Below w.heap.size w wc))
      case first =>
        cases x2
        · cases b2
          all_goals
            go_wp2
            go_meet
            exact ⟨⟨HB0.out.other (by omega) _ _⟩, ⟨HB1.out.set 2 _⟩, ⟨HBw.out.setCell (p := ⟨w.heap.size + 1, 2, none⟩) (by simp) _⟩⟩
        · go_wp2
          go_meet
          exact ⟨⟨HB0.out.other (by omega) _ _⟩, ⟨HB1.out.set 2 _⟩, ⟨HBw.out.setCell (p := ⟨w.heap.size + 1, 2, none⟩) (by simp) _⟩⟩
      case rest =>
      clear HB0 HB1 HBw hc hfz
      obtain ⟨HB0, HB1, HBw⟩ := hcut
      have hc : wc.cell? ⟨w.heap.size + 1, 3, none⟩ = some (.bool x3) := HB1.out.cell 3
      have hfz : wc.frozen? ⟨w.heap.size + 1, 3, none⟩ = false := HB1.out.frozen 3
      go_upto_region 9 with (fail)
      go_cut [] (fun wc => Aside0 (Blk wc w.heap.size 23 (fls [])) ∧ Aside0 (Blk wc (w.heap.size + 1) 23 #[.bool (x0 || b0), .bool (x1 || b1), .bool (x2 || b2), .bool (x3 || b3), .bool x4, .bool x5]) ∧ Aside0 (Below w.heap.size w wc))
      case first =>
        cases x3
        · cases b3
          all_goals
            go_wp2
            go_meet
            exact ⟨⟨HB0.out.other (by omega) _ _⟩, ⟨HB1.out.set 3 _⟩, ⟨HBw.out.setCell (p := ⟨w.heap.size + 1, 3, none⟩) (by simp) _⟩⟩
        · go_wp2
          go_meet
          exact ⟨⟨HB0.out.other (by omega) _ _⟩, ⟨HB1.out.set 3 _⟩, ⟨HBw.out.setCell (p := ⟨w.heap.size + 1, 3, none⟩) (by simp) _⟩⟩
      case rest =>
      clear HB0 HB1 HBw hc hfz
      obtain ⟨HB0, HB1, HBw⟩ := hcut
      have hc : wc.cell? ⟨w.heap.size + 1, 4, none⟩ = some (.bool x4) := HB1.out.cell 4
      have hfz : wc.frozen? ⟨w.heap.size + 1, 4, none⟩ = false := HB1.out.frozen 4
      go_upto_region 10 with (fail)
      go_cut [] (fun wc => Aside0 (Blk wc w.heap.size 23 (fls [])) ∧ Aside0 (Blk wc (w.heap.size + 1) 23 #[.bool (x0 || b0), .bool (x1 || b1), .bool (x2 || b2), .bool (x3 || b3), .bool (x4 || b4), .bool x5]) ∧ Aside0 (Below w.heap.size w wc))
      case first =>
        cases x4
        · cases b4
          all_goals
            go_wp2
            go_meet
            exact ⟨⟨HB0.out.other (by omega) _ _⟩, ⟨HB1.out.set 4 _⟩, ⟨HBw.out.setCell (p := ⟨w.heap.size + 1, 4, none⟩) (by simp) _⟩⟩
        · go_wp2
          go_meet
          exact ⟨⟨HB0.out.other (by omega) _ _⟩, ⟨HB1.out.set 4 _⟩, ⟨HBw.out.setCell (p := ⟨w.heap.size + 1, 4, none⟩) (by simp) _⟩⟩
      case rest =>
      clear HB0 HB1 HBw hc hfz
      obtain ⟨HB0, HB1, HBw⟩ := hcut
      have hc : wc.cell? ⟨w.heap.size + 1, 5, none⟩ = some (.bool x5) := HB1.out.cell 5
      have hfz : wc.frozen? ⟨w.heap.size + 1, 5, none⟩ = false := HB1.out.frozen 5
      go_upto_region 11 with (fail)
      go_cut [] (fun wc => Aside0 (Blk wc w.heap.size 23 (fls [])) ∧ Aside0 (Blk wc (w.heap.size + 1) 23 #[.bool (x0 || b0), .bool (x1 || b1), .bool (x2 || b2), .bool (x3 || b3), .bool (x4 || b4), .bool (x5 || b5)]) ∧ Aside0 (Below w.heap.size w wc))
      case first =>
        cases x5
        · cases b5
          all_goals
            go_wp2
            go_meet
            exact ⟨⟨HB0.out.other (by omega) _ _⟩, ⟨HB1.out.set 5 _⟩, ⟨HBw.out.setCell (p := ⟨w.heap.size + 1, 5, none⟩) (by simp) _⟩⟩
        · go_wp2
          go_meet
          exact ⟨⟨HB0.out.other (by omega) _ _⟩, ⟨HB1.out.set 5 _⟩, ⟨HBw.out.setCell (p := ⟨w.heap.size + 1, 5, none⟩) (by simp) _⟩⟩
      case rest =>
      clear HB0 HB1 HBw hc hfz
      obtain ⟨HB0, HB1, HBw⟩ := hcut
      have hjz : (j : Int) < 1000 := by omega
      go_wp2
      go_roundg (l.length - (j + 1))
      case measure => omega
      case rel => exact ⟨j + 1, pre ++ [k], by go_num, by omega, by omega, ⟨by simp [HP.out.1], by have h := HP.out.2; rw [HRN.out] at h; simpa using h⟩, HB0, ⟨by rw [HFH.out]; exact HB1.out⟩, HBw⟩
end Go.Proofs.Ytndjbhibajjaoaa.P
