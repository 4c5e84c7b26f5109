/- The list and the reference side by side; an act on both. Conditions: each theorem names its own. -/
import Derived.Test.YtnlbdmiflihghaaSKZ
namespace Go.Proofs.Ytnlbdmiflihghaa.P
open Go.RowKit Go.Shelf Go.Proofs.YtnlbdmiflihghaaW.PrintWords Go.Proofs.YtnlbdmiflihghaaW.PrintLast Go.Proofs.YtnlbdmiflihghaaW.PrintMore Go.Proofs.Ytnlbdmiflihghaa.SK
attribute [local go_sem] Oper.semAt_some

/-- The list and the reference list, apart from one another. -/
structure Bth (m : Nat) (w0 w : World) (b : Nat) (F : List Nat) (p1 : Pl2) (r : Nat) (R : List Nat) (p2 : Pl2) : Prop where
  ls : Ls w b F p1
  rf : Rf m w r R p2
  ge : ∀ c, c ∈ b :: F → m ≤ c
  dis : ∀ c, c ∈ b :: F → c ∉ R
  bl : Below m w0 w
section
variable {m : Nat} {w0 w w' : World} {b r : Nat} {F R : List Nat} {p1 p2 p' : Pl2}
theorem Bth.lt (h : Bth m w0 w b F p1 r R p2) : m < w.heap.size := by
  have h1 := h.ge b List.mem_cons_self
  have h2 := h.ls.lt (List.mem_cons_self (a := b) (l := F))
  omega
theorem Bth.below (h : Bth m w0 w b F p1 r R p2) (hb : Below w.heap.size w w') : Bth m w0 w' b F p1 r R p2 := ⟨h.ls.below hb, h.rf.below hb, h.ge, h.dis, h.bl.trans (hb.mono (Nat.le_of_lt h.lt))⟩
theorem Bth.fst (h : Bth m w0 w b F p1 r R p2) (ha : After w b F p' w') : ∃ F', Bth m w0 w' b F' p' r R p2 ∧ ∀ k, k < w.heap.size → k ∉ b :: F → w'.heap[k]? = w.heap[k]? := by
  obtain ⟨F', h1, h2, h3⟩ := ha
  have hlt := h.lt
  refine ⟨F', ⟨h1, h.rf.move (fun k hk => h2.block k (h.rf.lt k hk) (fun hc => h.dis k hc hk)) h2.size, fun c hc => ?_, fun c hc hc2 => ?_, h.bl.trans (h2.toBelow (Nat.le_of_lt hlt) h.ge)⟩, h2.block⟩
  · rcases List.mem_cons.mp hc with rfl | hc
    · exact h.ge _ List.mem_cons_self
    · rcases h3 c hc with h4 | h4
      · exact h.ge c (List.mem_cons_of_mem _ h4)
      · omega
  · rcases List.mem_cons.mp hc with rfl | hc
    · exact h.dis _ List.mem_cons_self hc2
    · rcases h3 c hc with h4 | h4
      · exact h.dis c (List.mem_cons_of_mem _ h4) hc2
      · have := h.rf.lt c hc2
        omega
theorem Bth.snd (h : Bth m w0 w b F p1 r R p2) (ha : AfterR m w r R p' w') : ∃ R', Bth m w0 w' b F p1 r R' p' ∧ ∀ k, k < w.heap.size → k ∉ R → w'.heap[k]? = w.heap[k]? := by
  obtain ⟨R', h1, h2, h3⟩ := ha
  have hlt := h.lt
  refine ⟨R', ⟨h.ls.move (fun k hk => h2.block k (h.ls.lt hk) (h.dis k hk)), h1, h.ge, fun c hc hc2 => ?_, h.bl.trans (h2.toBelow (Nat.le_of_lt hlt) h.rf.ge)⟩, h2.block⟩
  rcases h3 c hc2 with h4 | h4
  · exact h.dis c hc h4
  · have := h.ls.lt hc
    omega
theorem Bth.len (h : Bth m w0 w b F p1 r R p2) : p1.2.length = p1.1.length := h.ls.len.2
end
set_option maxHeartbeats 8000000 in
set_option maxRecDepth 100000 in
theorem did_calls {m : Nat} {w0 w : World} {b r : Nat} {F R : List Nat} {p : Pl2} (h : Bth m w0 w b F p r R p) (hsm : p.1.length < 1000) (h12 : ∀ x, x ∈ p.1 → x.1.size ≤ 12) (x : S39) :
    Calls Try.prog 21 #[.pointer (some ⟨b, 0, none⟩), .pointer (some ⟨r, 0, none⟩), .agg #[.int .i64 x.f0, .string x.f1.f0, .int .i64 x.f1.f1, .int .i64 x.f2, .int .i64 x.f3, .int .i64 x.f4]] w fun e w' => e = .returned (.bool true) ∧ ∃ F' R', Bth m w0 w' b F' (doneP x x.f2 p).2 r R' (doneP x x.f2 p).2 ∧ ∀ k, k < w.heap.size → k ∉ b :: F → k ∉ R → w'.heap[k]? = w.heap[k]? := by
  have HL := Aside0.mk h
  have hp2 := h.len
  have hs := h.ls.srt
  clear h
  go_enter Try.func21, Try.ntmps21
  go_wp2_with fail
  have hb1 : Below w.heap.size w (w.alloc (.cells #[.int .i64 x.f0, .string x.f1.f0, .int .i64 x.f1.f1, .int .i64 x.f2, .int .i64 x.f3, .int .i64 x.f4] 40)) := below_alloc (Below.refl _ _) _
  have hx1 : (w.alloc (.cells #[.int .i64 x.f0, .string x.f1.f0, .int .i64 x.f1.f1, .int .i64 x.f2, .int .i64 x.f3, .int .i64 x.f4] 40)).heap[w.heap.size]? = some (.cells #[.int .i64 x.f0, .string x.f1.f0, .int .i64 x.f1.f1, .int .i64 x.f2, .int .i64 x.f3, .int .i64 x.f4] 40 (0, 0)) := World.alloc_heap_new w _
  have hlt : w.heap.size < (w.alloc (.cells #[.int .i64 x.f0, .string x.f1.f0, .int .i64 x.f1.f1, .int .i64 x.f2, .int .i64 x.f3, .int .i64 x.f4] 40)).heap.size := by simp
  generalize World.alloc w _ = w1 at hb1 hx1 hlt ⊢
  refine (paliolaw10_Few.calls x.f1.f0 x.f1.f1 _ _ w1 (few_some x.f1)).mono ?_
  rintro q w2 ⟨rfl, hb2⟩
  have hb2' : Below w.heap.size w w2 := hb1.trans (hb2.mono hb1.size)
  have hx2 := (hb2.block _ hlt).trans hx1
  have hlt2 : w.heap.size < w2.heap.size := Nat.lt_of_lt_of_le hlt hb2.size
  clear hb1 hb2 hlt hx1
  go_upto_region 2 with fail
  have he3 : (w2.alloc (.cells #[.string (fewE x.f1).1, .int .i64 (fewE x.f1).2] 28)).heap[w2.heap.size]? = some (.cells #[.string (fewE x.f1).1, .int .i64 (fewE x.f1).2] 28 (0, 0)) := World.alloc_heap_new w2 _
  have hb3 : Below w2.heap.size w2 (w2.alloc (.cells #[.string (fewE x.f1).1, .int .i64 (fewE x.f1).2] 28)) := below_alloc (Below.refl _ _) _
  have hlt3 : w2.heap.size < (w2.alloc (.cells #[.string (fewE x.f1).1, .int .i64 (fewE x.f1).2] 28)).heap.size := by simp
  generalize World.alloc w2 _ = w3 at he3 hb3 hlt3 ⊢
  have hb3' : Below w.heap.size w w3 := hb2'.trans (hb3.mono hb2'.size)
  have hx3 := (hb3.block _ hlt2).trans hx2
  have c0 := cell_at (j := 0) hx3 rfl
  have HB3 := Aside0.mk ((HL.out.below hb3').below (w' := w3.drew) ((Below.refl _ w3).drew))
  have HBn := Aside0.mk (HL.out.below hb3')
  have HSZ := Aside0.mk hb3'.size
  have HF3 := Aside0.mk hb3'.block
  have HNX : Aside0 (w.heap.size ∉ b :: F ∧ w.heap.size ∉ R ∧ w2.heap.size ∉ b :: F ∧ w2.heap.size ∉ R ∧ w.heap.size < w3.drew.heap.size ∧ w2.heap.size < w3.drew.heap.size) := ⟨fun hc => by have := HL.out.ls.lt hc; omega, fun hc => by have := HL.out.rf.lt _ hc; omega, fun hc => by have := HL.out.ls.lt hc; omega, fun hc => by have := HL.out.rf.lt _ hc; omega, by show w.heap.size < w3.heap.size; omega, hlt3⟩
  have HKS : Aside0 (∀ W : World, W.heap[w.heap.size]? = w3.heap[w.heap.size]? ∧ W.heap[w2.heap.size]? = w3.heap[w2.heap.size]? →
      W.cell? ⟨w2.heap.size, 0, none⟩ = some (.string (fewE x.f1).1) ∧ W.cell? ⟨w2.heap.size, 1, none⟩ = some (.int .i64 (fewE x.f1).2) ∧ W.cell? ⟨w.heap.size, 3, none⟩ = some (.int .i64 x.f2) ∧ W.cell? ⟨w.heap.size, 4, none⟩ = some (.int .i64 x.f3) ∧ W.cell? ⟨w.heap.size, 5, none⟩ = some (.int .i64 x.f4)) := ⟨fun W ⟨h1, h2⟩ => ⟨cell_at (h2.trans he3) rfl, cell_at (h2.trans he3) rfl, cell_at (h1.trans hx3) rfl, cell_at (h1.trans hx3) rfl, cell_at (h1.trans hx3) rfl⟩⟩
  clear hb2' hb3 hb3' hlt2 hlt3 hx2 hx3 he3 HL
  generalize w2.heap.size = be at HNX HKS ⊢
  generalize w.heap.size = bx at HNX HKS c0 ⊢
  go_upto_region 3 with fail
  rw [u8_]
  obtain ⟨k, hk⟩ : ∃ k, x.f0 % 8 = k := ⟨_, rfl⟩
  rw [hk]
  have hr8 : k = 0 ∨ k = 1 ∨ k = 2 ∨ k = 3 ∨ k = 4 ∨ k = 5 ∨ k = 6 ∨ k = 7 := by omega
  have HD : Aside0 (doneP x x.f2 p = if k < 4 then insP (fewE x.f1) x.f2 p else if k < 6 then (if (delP (fewE x.f1) p).1 = true then 1 else 0, (delP (fewE x.f1) p).2) else if k = 6 then ((rank (fewE x.f1) p.1 : Nat), p) else cutP p x.f3 x.f4) := ⟨by unfold doneP; rw [hk]⟩
  clear hk c0
  generalize fewE x.f1 = ee at *
  have HK3 : Aside0 (w3.drew.heap[bx]? = w3.heap[bx]? ∧ w3.drew.heap[be]? = w3.heap[be]?) := ⟨rfl, rfl⟩
  have K7 : Aside0 (∀ W : World, W.heap[bx]? = w3.heap[bx]? ∧ W.heap[be]? = w3.heap[be]? → W.cell? ⟨be, 0, none⟩ = some (.string ee.1) ∧ W.cell? ⟨be, 1, none⟩ = some (.int .i64 ee.2) ∧ W.cell? ⟨bx, 3, none⟩ = some (.int .i64 x.f2)) := ⟨fun W h => ⟨(HKS.out W h).1, (HKS.out W h).2.1, (HKS.out W h).2.2.1⟩⟩
  rcases hr8 with rfl | rfl | rfl | rfl | rfl | rfl | rfl | rfl
  · have HD2 : Aside0 (doneP x x.f2 p = insP ee x.f2 p) := ⟨HD.out⟩
    clear HD
    go_upto_region 7 with fail
    go_region_held3 (fun w' => w'.cell? ⟨be, 0, none⟩ = some (.string ee.1) ∧ w'.cell? ⟨be, 1, none⟩ = some (.int .i64 ee.2) ∧ w'.cell? ⟨bx, 3, none⟩ = some (.int .i64 x.f2))
      (first | exact K7.out _ HK3.out | exact K7.out _ HK4.out | exact K7.out _ HK5.out)
      (first
        | (go_at_call 29; refine (ls_insert HB3.out.ls ee x.f2 hsm).mono ?_; rintro y4 w4 ⟨rfl, ha4⟩; obtain ⟨F4, hB4, hk4⟩ := HB3.out.fst ha4; have HB4 := Aside0.mk hB4; have HK4 : Aside0 (w4.heap[bx]? = w3.heap[bx]? ∧ w4.heap[be]? = w3.heap[be]?) := ⟨hk4 bx HNX.out.2.2.2.2.1 HNX.out.1, hk4 be HNX.out.2.2.2.2.2 HNX.out.2.2.1⟩; have HS4 := Aside0.mk (show w3.heap.size ≤ w4.heap.size from by obtain ⟨_, _, hf, _⟩ := ha4; exact hf.size); have HF4 : Aside0 (∀ k, k < w.heap.size → k ∉ b :: F → w4.heap[k]? = w.heap[k]?) := ⟨fun k h1 h2 => (hk4 k (Nat.lt_of_lt_of_le h1 HSZ.out) h2).trans (HF3.out k h1)⟩; clear ha4 hB4 hk4)
        | (go_at_call 33; refine (rinsert_calls HB4.out.rf hp2 (by omega) hs h12 ee x.f2).mono ?_; rintro y5 w5 ⟨rfl, ha5⟩; obtain ⟨R5, hB5, hk5⟩ := HB4.out.snd ha5; have HB5 := Aside0.mk hB5; have HK5 : Aside0 (w5.heap[bx]? = w3.heap[bx]? ∧ w5.heap[be]? = w3.heap[be]?) := ⟨(hk5 bx (Nat.lt_of_lt_of_le HNX.out.2.2.2.2.1 HS4.out) HNX.out.2.1).trans HK4.out.1, (hk5 be (Nat.lt_of_lt_of_le HNX.out.2.2.2.2.2 HS4.out) HNX.out.2.2.2.1).trans HK4.out.2⟩; have HF5 : Aside0 (∀ k, k < w.heap.size → k ∉ b :: F → k ∉ R → w5.heap[k]? = w.heap[k]?) := ⟨fun k h1 h2 h3 => (hk5 k (Nat.lt_of_lt_of_le (Nat.lt_of_lt_of_le h1 HSZ.out) HS4.out) h3).trans (HF4.out k h1 h2)⟩; clear ha5 hB5 hk5))
    go_wp2
    go_ret
    rw [HD2.out]
    exact ⟨rfl, F4, R5, HB5.out, HF5.out⟩
  · have HD2 : Aside0 (doneP x x.f2 p = insP ee x.f2 p) := ⟨HD.out⟩
    clear HD
    go_upto_region 7 with fail
    go_region_held3 (fun w' => w'.cell? ⟨be, 0, none⟩ = some (.string ee.1) ∧ w'.cell? ⟨be, 1, none⟩ = some (.int .i64 ee.2) ∧ w'.cell? ⟨bx, 3, none⟩ = some (.int .i64 x.f2))
      (first | exact K7.out _ HK3.out | exact K7.out _ HK4.out | exact K7.out _ HK5.out)
      (first
        | (go_at_call 29; refine (ls_insert HB3.out.ls ee x.f2 hsm).mono ?_; rintro y4 w4 ⟨rfl, ha4⟩; obtain ⟨F4, hB4, hk4⟩ := HB3.out.fst ha4; have HB4 := Aside0.mk hB4; have HK4 : Aside0 (w4.heap[bx]? = w3.heap[bx]? ∧ w4.heap[be]? = w3.heap[be]?) := ⟨hk4 bx HNX.out.2.2.2.2.1 HNX.out.1, hk4 be HNX.out.2.2.2.2.2 HNX.out.2.2.1⟩; have HS4 := Aside0.mk (show w3.heap.size ≤ w4.heap.size from by obtain ⟨_, _, hf, _⟩ := ha4; exact hf.size); have HF4 : Aside0 (∀ k, k < w.heap.size → k ∉ b :: F → w4.heap[k]? = w.heap[k]?) := ⟨fun k h1 h2 => (hk4 k (Nat.lt_of_lt_of_le h1 HSZ.out) h2).trans (HF3.out k h1)⟩; clear ha4 hB4 hk4)
        | (go_at_call 33; refine (rinsert_calls HB4.out.rf hp2 (by omega) hs h12 ee x.f2).mono ?_; rintro y5 w5 ⟨rfl, ha5⟩; obtain ⟨R5, hB5, hk5⟩ := HB4.out.snd ha5; have HB5 := Aside0.mk hB5; have HK5 : Aside0 (w5.heap[bx]? = w3.heap[bx]? ∧ w5.heap[be]? = w3.heap[be]?) := ⟨(hk5 bx (Nat.lt_of_lt_of_le HNX.out.2.2.2.2.1 HS4.out) HNX.out.2.1).trans HK4.out.1, (hk5 be (Nat.lt_of_lt_of_le HNX.out.2.2.2.2.2 HS4.out) HNX.out.2.2.2.1).trans HK4.out.2⟩; have HF5 : Aside0 (∀ k, k < w.heap.size → k ∉ b :: F → k ∉ R → w5.heap[k]? = w.heap[k]?) := ⟨fun k h1 h2 h3 => (hk5 k (Nat.lt_of_lt_of_le (Nat.lt_of_lt_of_le h1 HSZ.out) HS4.out) h3).trans (HF4.out k h1 h2)⟩; clear ha5 hB5 hk5))
    go_wp2
    go_ret
    rw [HD2.out]
    exact ⟨rfl, F4, R5, HB5.out, HF5.out⟩
  · have HD2 : Aside0 (doneP x x.f2 p = insP ee x.f2 p) := ⟨HD.out⟩
    clear HD
    go_upto_region 7 with fail
    go_region_held3 (fun w' => w'.cell? ⟨be, 0, none⟩ = some (.string ee.1) ∧ w'.cell? ⟨be, 1, none⟩ = some (.int .i64 ee.2) ∧ w'.cell? ⟨bx, 3, none⟩ = some (.int .i64 x.f2))
      (first | exact K7.out _ HK3.out | exact K7.out _ HK4.out | exact K7.out _ HK5.out)
      (first
        | (go_at_call 29; refine (ls_insert HB3.out.ls ee x.f2 hsm).mono ?_; rintro y4 w4 ⟨rfl, ha4⟩; obtain ⟨F4, hB4, hk4⟩ := HB3.out.fst ha4; have HB4 := Aside0.mk hB4; have HK4 : Aside0 (w4.heap[bx]? = w3.heap[bx]? ∧ w4.heap[be]? = w3.heap[be]?) := ⟨hk4 bx HNX.out.2.2.2.2.1 HNX.out.1, hk4 be HNX.out.2.2.2.2.2 HNX.out.2.2.1⟩; have HS4 := Aside0.mk (show w3.heap.size ≤ w4.heap.size from by obtain ⟨_, _, hf, _⟩ := ha4; exact hf.size); have HF4 : Aside0 (∀ k, k < w.heap.size → k ∉ b :: F → w4.heap[k]? = w.heap[k]?) := ⟨fun k h1 h2 => (hk4 k (Nat.lt_of_lt_of_le h1 HSZ.out) h2).trans (HF3.out k h1)⟩; clear ha4 hB4 hk4)
        | (go_at_call 33; refine (rinsert_calls HB4.out.rf hp2 (by omega) hs h12 ee x.f2).mono ?_; rintro y5 w5 ⟨rfl, ha5⟩; obtain ⟨R5, hB5, hk5⟩ := HB4.out.snd ha5; have HB5 := Aside0.mk hB5; have HK5 : Aside0 (w5.heap[bx]? = w3.heap[bx]? ∧ w5.heap[be]? = w3.heap[be]?) := ⟨(hk5 bx (Nat.lt_of_lt_of_le HNX.out.2.2.2.2.1 HS4.out) HNX.out.2.1).trans HK4.out.1, (hk5 be (Nat.lt_of_lt_of_le HNX.out.2.2.2.2.2 HS4.out) HNX.out.2.2.2.1).trans HK4.out.2⟩; have HF5 : Aside0 (∀ k, k < w.heap.size → k ∉ b :: F → k ∉ R → w5.heap[k]? = w.heap[k]?) := ⟨fun k h1 h2 h3 => (hk5 k (Nat.lt_of_lt_of_le (Nat.lt_of_lt_of_le h1 HSZ.out) HS4.out) h3).trans (HF4.out k h1 h2)⟩; clear ha5 hB5 hk5))
    go_wp2
    go_ret
    rw [HD2.out]
    exact ⟨rfl, F4, R5, HB5.out, HF5.out⟩
  · have HD2 : Aside0 (doneP x x.f2 p = insP ee x.f2 p) := ⟨HD.out⟩
    clear HD
    go_upto_region 7 with fail
    go_region_held3 (fun w' => w'.cell? ⟨be, 0, none⟩ = some (.string ee.1) ∧ w'.cell? ⟨be, 1, none⟩ = some (.int .i64 ee.2) ∧ w'.cell? ⟨bx, 3, none⟩ = some (.int .i64 x.f2))
      (first | exact K7.out _ HK3.out | exact K7.out _ HK4.out | exact K7.out _ HK5.out)
      (first
        | (go_at_call 29; refine (ls_insert HB3.out.ls ee x.f2 hsm).mono ?_; rintro y4 w4 ⟨rfl, ha4⟩; obtain ⟨F4, hB4, hk4⟩ := HB3.out.fst ha4; have HB4 := Aside0.mk hB4; have HK4 : Aside0 (w4.heap[bx]? = w3.heap[bx]? ∧ w4.heap[be]? = w3.heap[be]?) := ⟨hk4 bx HNX.out.2.2.2.2.1 HNX.out.1, hk4 be HNX.out.2.2.2.2.2 HNX.out.2.2.1⟩; have HS4 := Aside0.mk (show w3.heap.size ≤ w4.heap.size from by obtain ⟨_, _, hf, _⟩ := ha4; exact hf.size); have HF4 : Aside0 (∀ k, k < w.heap.size → k ∉ b :: F → w4.heap[k]? = w.heap[k]?) := ⟨fun k h1 h2 => (hk4 k (Nat.lt_of_lt_of_le h1 HSZ.out) h2).trans (HF3.out k h1)⟩; clear ha4 hB4 hk4)
        | (go_at_call 33; refine (rinsert_calls HB4.out.rf hp2 (by omega) hs h12 ee x.f2).mono ?_; rintro y5 w5 ⟨rfl, ha5⟩; obtain ⟨R5, hB5, hk5⟩ := HB4.out.snd ha5; have HB5 := Aside0.mk hB5; have HK5 : Aside0 (w5.heap[bx]? = w3.heap[bx]? ∧ w5.heap[be]? = w3.heap[be]?) := ⟨(hk5 bx (Nat.lt_of_lt_of_le HNX.out.2.2.2.2.1 HS4.out) HNX.out.2.1).trans HK4.out.1, (hk5 be (Nat.lt_of_lt_of_le HNX.out.2.2.2.2.2 HS4.out) HNX.out.2.2.2.1).trans HK4.out.2⟩; have HF5 : Aside0 (∀ k, k < w.heap.size → k ∉ b :: F → k ∉ R → w5.heap[k]? = w.heap[k]?) := ⟨fun k h1 h2 h3 => (hk5 k (Nat.lt_of_lt_of_le (Nat.lt_of_lt_of_le h1 HSZ.out) HS4.out) h3).trans (HF4.out k h1 h2)⟩; clear ha5 hB5 hk5))
    go_wp2
    go_ret
    rw [HD2.out]
    exact ⟨rfl, F4, R5, HB5.out, HF5.out⟩
  · have HD2 : Aside0 ((doneP x x.f2 p).2 = (delP ee p).2) := ⟨by rw [HD.out]; rfl⟩
    have HDL : Aside0 (∀ w F, Ls w b F p → Calls Try.prog 27 #[.pointer (some ⟨b, 0, none⟩), .agg #[.string ee.1, .int .i64 ee.2]] w fun r w' => r = .returned (.bool (delP ee p).1) ∧ After w b F (delP ee p).2 w') := ⟨fun w F h => ls_delete h ee⟩
    have HDR : Aside0 (∀ w R, Rf m w r R p → Calls Try.prog 34 #[.pointer (some ⟨r, 0, none⟩), .agg #[.string ee.1, .int .i64 ee.2]] w fun x w' => x = .returned (.bool (delP ee p).1) ∧ AfterR m w r R (delP ee p).2 w') := ⟨fun w R h => rdelete_calls h hp2 (by omega) hs h12 ee⟩
    clear HD
    generalize (delP ee p).1 = dv at HDL HDR
    go_upto_region 10 with fail
    cases dv with
    | true =>
      go_region_held3 (fun w' => w'.cell? ⟨be, 0, none⟩ = some (.string ee.1) ∧ w'.cell? ⟨be, 1, none⟩ = some (.int .i64 ee.2) ∧ w'.cell? ⟨bx, 3, none⟩ = some (.int .i64 x.f2))
        (first | exact K7.out _ HK3.out | exact K7.out _ HK4.out | exact K7.out _ HK5.out)
        (first
          | (go_at_call 27; refine (HDL.out _ _ HB3.out.ls).mono ?_; rintro y4 w4 ⟨rfl, ha4⟩; obtain ⟨F4, hB4, hk4⟩ := HB3.out.fst ha4; have HB4 := Aside0.mk hB4; have HK4 : Aside0 (w4.heap[bx]? = w3.heap[bx]? ∧ w4.heap[be]? = w3.heap[be]?) := ⟨hk4 bx HNX.out.2.2.2.2.1 HNX.out.1, hk4 be HNX.out.2.2.2.2.2 HNX.out.2.2.1⟩; have HS4 := Aside0.mk (show w3.heap.size ≤ w4.heap.size from by obtain ⟨_, _, hf, _⟩ := ha4; exact hf.size); have HF4 : Aside0 (∀ k, k < w.heap.size → k ∉ b :: F → w4.heap[k]? = w.heap[k]?) := ⟨fun k h1 h2 => (hk4 k (Nat.lt_of_lt_of_le h1 HSZ.out) h2).trans (HF3.out k h1)⟩; clear ha4 hB4 hk4)
          | (go_at_call 34; refine (HDR.out _ _ HB4.out.rf).mono ?_; rintro y5 w5 ⟨rfl, ha5⟩; obtain ⟨R5, hB5, hk5⟩ := HB4.out.snd ha5; have HB5 := Aside0.mk hB5; have HK5 : Aside0 (w5.heap[bx]? = w3.heap[bx]? ∧ w5.heap[be]? = w3.heap[be]?) := ⟨(hk5 bx (Nat.lt_of_lt_of_le HNX.out.2.2.2.2.1 HS4.out) HNX.out.2.1).trans HK4.out.1, (hk5 be (Nat.lt_of_lt_of_le HNX.out.2.2.2.2.2 HS4.out) HNX.out.2.2.2.1).trans HK4.out.2⟩; have HF5 : Aside0 (∀ k, k < w.heap.size → k ∉ b :: F → k ∉ R → w5.heap[k]? = w.heap[k]?) := ⟨fun k h1 h2 h3 => (hk5 k (Nat.lt_of_lt_of_le (Nat.lt_of_lt_of_le h1 HSZ.out) HS4.out) h3).trans (HF4.out k h1 h2)⟩; clear ha5 hB5 hk5))
      go_wp2
      go_ret
      rw [HD2.out]
      exact ⟨rfl, F4, R5, HB5.out, HF5.out⟩
    | false =>
      go_region_held3 (fun w' => w'.cell? ⟨be, 0, none⟩ = some (.string ee.1) ∧ w'.cell? ⟨be, 1, none⟩ = some (.int .i64 ee.2) ∧ w'.cell? ⟨bx, 3, none⟩ = some (.int .i64 x.f2))
        (first | exact K7.out _ HK3.out | exact K7.out _ HK4.out | exact K7.out _ HK5.out)
        (first
          | (go_at_call 27; refine (HDL.out _ _ HB3.out.ls).mono ?_; rintro y4 w4 ⟨rfl, ha4⟩; obtain ⟨F4, hB4, hk4⟩ := HB3.out.fst ha4; have HB4 := Aside0.mk hB4; have HK4 : Aside0 (w4.heap[bx]? = w3.heap[bx]? ∧ w4.heap[be]? = w3.heap[be]?) := ⟨hk4 bx HNX.out.2.2.2.2.1 HNX.out.1, hk4 be HNX.out.2.2.2.2.2 HNX.out.2.2.1⟩; have HS4 := Aside0.mk (show w3.heap.size ≤ w4.heap.size from by obtain ⟨_, _, hf, _⟩ := ha4; exact hf.size); have HF4 : Aside0 (∀ k, k < w.heap.size → k ∉ b :: F → w4.heap[k]? = w.heap[k]?) := ⟨fun k h1 h2 => (hk4 k (Nat.lt_of_lt_of_le h1 HSZ.out) h2).trans (HF3.out k h1)⟩; clear ha4 hB4 hk4)
          | (go_at_call 34; refine (HDR.out _ _ HB4.out.rf).mono ?_; rintro y5 w5 ⟨rfl, ha5⟩; obtain ⟨R5, hB5, hk5⟩ := HB4.out.snd ha5; have HB5 := Aside0.mk hB5; have HK5 : Aside0 (w5.heap[bx]? = w3.heap[bx]? ∧ w5.heap[be]? = w3.heap[be]?) := ⟨(hk5 bx (Nat.lt_of_lt_of_le HNX.out.2.2.2.2.1 HS4.out) HNX.out.2.1).trans HK4.out.1, (hk5 be (Nat.lt_of_lt_of_le HNX.out.2.2.2.2.2 HS4.out) HNX.out.2.2.2.1).trans HK4.out.2⟩; have HF5 : Aside0 (∀ k, k < w.heap.size → k ∉ b :: F → k ∉ R → w5.heap[k]? = w.heap[k]?) := ⟨fun k h1 h2 h3 => (hk5 k (Nat.lt_of_lt_of_le (Nat.lt_of_lt_of_le h1 HSZ.out) HS4.out) h3).trans (HF4.out k h1 h2)⟩; clear ha5 hB5 hk5))
      go_wp2
      go_ret
      rw [HD2.out]
      exact ⟨rfl, F4, R5, HB5.out, HF5.out⟩
  · have HD2 : Aside0 ((doneP x x.f2 p).2 = (delP ee p).2) := ⟨by rw [HD.out]; rfl⟩
    have HDL : Aside0 (∀ w F, Ls w b F p → Calls Try.prog 27 #[.pointer (some ⟨b, 0, none⟩), .agg #[.string ee.1, .int .i64 ee.2]] w fun r w' => r = .returned (.bool (delP ee p).1) ∧ After w b F (delP ee p).2 w') := ⟨fun w F h => ls_delete h ee⟩
    have HDR : Aside0 (∀ w R, Rf m w r R p → Calls Try.prog 34 #[.pointer (some ⟨r, 0, none⟩), .agg #[.string ee.1, .int .i64 ee.2]] w fun x w' => x = .returned (.bool (delP ee p).1) ∧ AfterR m w r R (delP ee p).2 w') := ⟨fun w R h => rdelete_calls h hp2 (by omega) hs h12 ee⟩
    clear HD
    generalize (delP ee p).1 = dv at HDL HDR
    go_upto_region 10 with fail
    cases dv with
    | true =>
      go_region_held3 (fun w' => w'.cell? ⟨be, 0, none⟩ = some (.string ee.1) ∧ w'.cell? ⟨be, 1, none⟩ = some (.int .i64 ee.2) ∧ w'.cell? ⟨bx, 3, none⟩ = some (.int .i64 x.f2))
        (first | exact K7.out _ HK3.out | exact K7.out _ HK4.out | exact K7.out _ HK5.out)
        (first
          | (go_at_call 27; refine (HDL.out _ _ HB3.out.ls).mono ?_; rintro y4 w4 ⟨rfl, ha4⟩; obtain ⟨F4, hB4, hk4⟩ := HB3.out.fst ha4; have HB4 := Aside0.mk hB4; have HK4 : Aside0 (w4.heap[bx]? = w3.heap[bx]? ∧ w4.heap[be]? = w3.heap[be]?) := ⟨hk4 bx HNX.out.2.2.2.2.1 HNX.out.1, hk4 be HNX.out.2.2.2.2.2 HNX.out.2.2.1⟩; have HS4 := Aside0.mk (show w3.heap.size ≤ w4.heap.size from by obtain ⟨_, _, hf, _⟩ := ha4; exact hf.size); have HF4 : Aside0 (∀ k, k < w.heap.size → k ∉ b :: F → w4.heap[k]? = w.heap[k]?) := ⟨fun k h1 h2 => (hk4 k (Nat.lt_of_lt_of_le h1 HSZ.out) h2).trans (HF3.out k h1)⟩; clear ha4 hB4 hk4)
          | (go_at_call 34; refine (HDR.out _ _ HB4.out.rf).mono ?_; rintro y5 w5 ⟨rfl, ha5⟩; obtain ⟨R5, hB5, hk5⟩ := HB4.out.snd ha5; have HB5 := Aside0.mk hB5; have HK5 : Aside0 (w5.heap[bx]? = w3.heap[bx]? ∧ w5.heap[be]? = w3.heap[be]?) := ⟨(hk5 bx (Nat.lt_of_lt_of_le HNX.out.2.2.2.2.1 HS4.out) HNX.out.2.1).trans HK4.out.1, (hk5 be (Nat.lt_of_lt_of_le HNX.out.2.2.2.2.2 HS4.out) HNX.out.2.2.2.1).trans HK4.out.2⟩; have HF5 : Aside0 (∀ k, k < w.heap.size → k ∉ b :: F → k ∉ R → w5.heap[k]? = w.heap[k]?) := ⟨fun k h1 h2 h3 => (hk5 k (Nat.lt_of_lt_of_le (Nat.lt_of_lt_of_le h1 HSZ.out) HS4.out) h3).trans (HF4.out k h1 h2)⟩; clear ha5 hB5 hk5))
      go_wp2
      go_ret
      rw [HD2.out]
      exact ⟨rfl, F4, R5, HB5.out, HF5.out⟩
    | false =>
      go_region_held3 (fun w' => w'.cell? ⟨be, 0, none⟩ = some (.string ee.1) ∧ w'.cell? ⟨be, 1, none⟩ = some (.int .i64 ee.2) ∧ w'.cell? ⟨bx, 3, none⟩ = some (.int .i64 x.f2))
        (first | exact K7.out _ HK3.out | exact K7.out _ HK4.out | exact K7.out _ HK5.out)
        (first
          | (go_at_call 27; refine (HDL.out _ _ HB3.out.ls).mono ?_; rintro y4 w4 ⟨rfl, ha4⟩; obtain ⟨F4, hB4, hk4⟩ := HB3.out.fst ha4; have HB4 := Aside0.mk hB4; have HK4 : Aside0 (w4.heap[bx]? = w3.heap[bx]? ∧ w4.heap[be]? = w3.heap[be]?) := ⟨hk4 bx HNX.out.2.2.2.2.1 HNX.out.1, hk4 be HNX.out.2.2.2.2.2 HNX.out.2.2.1⟩; have HS4 := Aside0.mk (show w3.heap.size ≤ w4.heap.size from by obtain ⟨_, _, hf, _⟩ := ha4; exact hf.size); have HF4 : Aside0 (∀ k, k < w.heap.size → k ∉ b :: F → w4.heap[k]? = w.heap[k]?) := ⟨fun k h1 h2 => (hk4 k (Nat.lt_of_lt_of_le h1 HSZ.out) h2).trans (HF3.out k h1)⟩; clear ha4 hB4 hk4)
          | (go_at_call 34; refine (HDR.out _ _ HB4.out.rf).mono ?_; rintro y5 w5 ⟨rfl, ha5⟩; obtain ⟨R5, hB5, hk5⟩ := HB4.out.snd ha5; have HB5 := Aside0.mk hB5; have HK5 : Aside0 (w5.heap[bx]? = w3.heap[bx]? ∧ w5.heap[be]? = w3.heap[be]?) := ⟨(hk5 bx (Nat.lt_of_lt_of_le HNX.out.2.2.2.2.1 HS4.out) HNX.out.2.1).trans HK4.out.1, (hk5 be (Nat.lt_of_lt_of_le HNX.out.2.2.2.2.2 HS4.out) HNX.out.2.2.2.1).trans HK4.out.2⟩; have HF5 : Aside0 (∀ k, k < w.heap.size → k ∉ b :: F → k ∉ R → w5.heap[k]? = w.heap[k]?) := ⟨fun k h1 h2 h3 => (hk5 k (Nat.lt_of_lt_of_le (Nat.lt_of_lt_of_le h1 HSZ.out) HS4.out) h3).trans (HF4.out k h1 h2)⟩; clear ha5 hB5 hk5))
      go_wp2
      go_ret
      rw [HD2.out]
      exact ⟨rfl, F4, R5, HB5.out, HF5.out⟩
  · have HD2 : Aside0 ((doneP x x.f2 p).2 = p) := ⟨by rw [HD.out]; rfl⟩
    have hkx := HKS.out w3 ⟨rfl, rfl⟩
    have ce0 := hkx.1
    have ce1 := hkx.2.1
    clear HD hkx
    have hsk := ls_seek HBn.out.ls ee
    go_wp2_with (first | (go_at_call 14; refine hsk.mono ?_; rintro y4 w4 ⟨rfl, hb4⟩; have HB4 := Aside0.mk (HBn.out.below hb4); have HK4 : Aside0 (w4.heap[bx]? = w3.heap[bx]? ∧ w4.heap[be]? = w3.heap[be]?) := ⟨hb4.block bx HNX.out.2.2.2.2.1, hb4.block be HNX.out.2.2.2.2.2⟩; have HF4 : Aside0 (∀ k, k < w.heap.size → w4.heap[k]? = w.heap[k]?) := ⟨fun k h1 => (hb4.block k (Nat.lt_of_lt_of_le h1 HSZ.out)).trans (HF3.out k h1)⟩; have HS4 := Aside0.mk hb4.size; clear hb4 hsk))
    clear ce0 ce1
    obtain ⟨A, c, A', c', hblk, hc, hc', hE, hI⟩ := HB4.out.rf.blk
    have hrl : r < w4.heap.size := HB4.out.rf.lt r HB4.out.rf.mem
    have hC := R_C hE
    have hmE : (p.1.map toS).length = p.1.length := List.length_map _
    rw [hmE] at hC
    have hsr := rseek_calls ee p.1 _ rfl hs h12 (by omega) A c w4.drew (Kd.C_drew hC) hc
    have hkx := HKS.out w4 HK4.out
    have HK : Aside0 (∀ W : World, Below w4.heap.size w4 W → W.cell? ⟨r, 0, none⟩ = some (.slice A p.1.length c) ∧ W.cell? ⟨be, 0, none⟩ = some (.string ee.1) ∧ W.cell? ⟨be, 1, none⟩ = some (.int .i64 ee.2)) := ⟨fun W hb => ⟨cell_at ((hb.block r hrl).trans hblk) rfl, (hb.cell (World.block_lt_of_cell? w4 _ hkx.1)).trans hkx.1, (hb.cell (World.block_lt_of_cell? w4 _ hkx.2.1)).trans hkx.2.1⟩⟩
    have HB4d := Aside0.mk ((Below.refl w4.heap.size w4).drew)
    clear hE hI hC hblk hkx
    go_region_held3 (fun w' => w'.cell? ⟨r, 0, none⟩ = some (.slice A p.1.length c) ∧ w'.cell? ⟨be, 0, none⟩ = some (.string ee.1) ∧ w'.cell? ⟨be, 1, none⟩ = some (.int .i64 ee.2))
      (first | exact HK.out _ HB4d.out | exact HK.out _ HB5.out)
      (first | (go_at_call 35; refine hsr.mono ?_; rintro y5 w5 ⟨rfl, hb5⟩; have HB5 := Aside0.mk (HB4d.out.trans hb5); clear hb5 hsr))
    have HB6 := Aside0.mk (HB4.out.below HB5.out)
    generalize (rank ee p.1 : Nat) = k
    generalize isin ee p.1 = bi
    cases bi with
    | true =>
      go_wp2
      go_ret
      rw [HD2.out]
      exact ⟨rfl, F, R, HB6.out, fun k h1 _ _ => (HB5.out.block k (Nat.lt_of_lt_of_le (Nat.lt_of_lt_of_le h1 HSZ.out) HS4.out)).trans (HF4.out k h1)⟩
    | false =>
      go_wp2
      go_ret
      rw [HD2.out]
      exact ⟨rfl, F, R, HB6.out, fun k h1 _ _ => (HB5.out.block k (Nat.lt_of_lt_of_le (Nat.lt_of_lt_of_le h1 HSZ.out) HS4.out)).trans (HF4.out k h1)⟩
  · have HD2 : Aside0 (doneP x x.f2 p = cutP p x.f3 x.f4) := ⟨by rw [HD.out]; rfl⟩
    have HDR : Aside0 (∀ w R, Rf m w r R p → Calls Try.prog 36 #[.pointer (some ⟨r, 0, none⟩), .int .i64 x.f3, .int .i64 x.f4] w fun y w' => y = .returned (.int .i64 (cutP p x.f3 x.f4).1) ∧ AfterR m w r R (cutP p x.f3 x.f4).2 w') := ⟨fun w R h => rcut_calls h hp2 (by omega) x.f3 x.f4⟩
    have K8 : Aside0 (∀ W : World, W.heap[bx]? = w3.heap[bx]? ∧ W.heap[be]? = w3.heap[be]? → W.cell? ⟨bx, 4, none⟩ = some (.int .i64 x.f3) ∧ W.cell? ⟨bx, 5, none⟩ = some (.int .i64 x.f4)) := ⟨fun W h => (HKS.out W h).2.2.2⟩
    clear HD
    go_upto_region 15 with fail
    go_region_held3 (fun w' => w'.cell? ⟨bx, 4, none⟩ = some (.int .i64 x.f3) ∧ w'.cell? ⟨bx, 5, none⟩ = some (.int .i64 x.f4))
      (first | exact K8.out _ HK3.out | exact K8.out _ HK4.out | exact K8.out _ HK5.out)
      (first
        | (go_at_call 26; refine (ls_cut HB3.out.ls hsm x.f3 x.f4).mono ?_; rintro y4 w4 ⟨rfl, ha4⟩; obtain ⟨F4, hB4, hk4⟩ := HB3.out.fst ha4; have HB4 := Aside0.mk hB4; have HK4 : Aside0 (w4.heap[bx]? = w3.heap[bx]? ∧ w4.heap[be]? = w3.heap[be]?) := ⟨hk4 bx HNX.out.2.2.2.2.1 HNX.out.1, hk4 be HNX.out.2.2.2.2.2 HNX.out.2.2.1⟩; have HS4 := Aside0.mk (show w3.heap.size ≤ w4.heap.size from by obtain ⟨_, _, hf, _⟩ := ha4; exact hf.size); have HF4 : Aside0 (∀ k, k < w.heap.size → k ∉ b :: F → w4.heap[k]? = w.heap[k]?) := ⟨fun k h1 h2 => (hk4 k (Nat.lt_of_lt_of_le h1 HSZ.out) h2).trans (HF3.out k h1)⟩; clear ha4 hB4 hk4)
        | (go_at_call 36; refine (HDR.out _ _ HB4.out.rf).mono ?_; rintro y5 w5 ⟨rfl, ha5⟩; obtain ⟨R5, hB5, hk5⟩ := HB4.out.snd ha5; have HB5 := Aside0.mk hB5; have HK5 : Aside0 (w5.heap[bx]? = w3.heap[bx]? ∧ w5.heap[be]? = w3.heap[be]?) := ⟨(hk5 bx (Nat.lt_of_lt_of_le HNX.out.2.2.2.2.1 HS4.out) HNX.out.2.1).trans HK4.out.1, (hk5 be (Nat.lt_of_lt_of_le HNX.out.2.2.2.2.2 HS4.out) HNX.out.2.2.2.1).trans HK4.out.2⟩; have HF5 : Aside0 (∀ k, k < w.heap.size → k ∉ b :: F → k ∉ R → w5.heap[k]? = w.heap[k]?) := ⟨fun k h1 h2 h3 => (hk5 k (Nat.lt_of_lt_of_le (Nat.lt_of_lt_of_le h1 HSZ.out) HS4.out) h3).trans (HF4.out k h1 h2)⟩; clear ha5 hB5 hk5))
    go_wp2
    go_ret
    rw [HD2.out]
    exact ⟨rfl, F4, R5, HB5.out, HF5.out⟩
end Go.Proofs.Ytnlbdmiflihghaa.P

/- What SkipDoes asks of the list and the reference. Conditions: each theorem names its own. -/
namespace Go.Proofs.Ytnlbdmiflihghaa.P
open Go.RowKit Go.Shelf Go.Proofs.YtnlbdmiflihghaaW.PrintWords Go.Proofs.YtnlbdmiflihghaaW.PrintLast Go.Proofs.YtnlbdmiflihghaaW.PrintMore Go.Proofs.Ytnlbdmiflihghaa.SK
attribute [local go_sem] Oper.semAt_some

section
theorem ints_l0 (l : List Int) (hm : l.length < 9223372036854775807) : ∀ k i : Nat, i + k = l.length → palioref10_Ints.l0 (k + 1) l l (i : Int) = some true := by
  intro k
  induction k with
  | zero =>
    intro i hi
    unfold palioref10_Ints.l0
    rw [if_neg (by omega)]
  | succ k ih =>
    intro i hi
    unfold palioref10_Ints.l0
    have hw : wrap64 ((i : Int) + 1) = ((i + 1 : Nat) : Int) := by unfold wrap64; omega
    rw [if_pos (by omega), if_pos (by omega), if_pos (by omega), if_pos rfl, hw]
    exact ih (i + 1) (by omega)
theorem ints_f (l : List Int) (hm : l.length < 9223372036854775807) : palioref10_Ints.f (l.length + 1) l l = some true := by
  unfold palioref10_Ints.f
  rw [if_pos rfl]
  exact ints_l0 l hm l.length 0 (by omega)
theorem ints_calls (L : List Int) (n : Nat) (hn : L.length = n) (hm : n < 9223372036854775807) (A0 A1 : Option Addr) (c0 c1 : Nat) (w : World) (h0 : Kd.C (Kd.int .i64) w A0 n L) (g0 : n ≤ c0) (h1 : Kd.C (Kd.int .i64) w A1 n L) (g1 : n ≤ c1) :
    Calls Try.prog 24 #[.slice A0 n c0, .slice A1 n c1] w fun e w' => e = .returned (.bool true) ∧ Below w.heap.size w w' := by
  subst hn
  exact (palioref10_Ints.calls _ A0 c0 L A1 c1 L true w h0 g0 h1 g1 (ints_f _ hm)).mono fun _ _ ⟨e1, e2⟩ => ⟨e1, e2.below⟩
/-- What acts keep: short members, levels up to 32. -/
def Gd (p : Pl2) : Prop := (∀ x, x ∈ p.1 → x.1.size ≤ 12) ∧ ∀ c, c ∈ p.2 → c ≤ 32
theorem gd_nil : Gd ([], []) := ⟨fun _ h => (List.not_mem_nil h).elim, fun _ h => (List.not_mem_nil h).elim⟩
theorem few12 (x : S28) : (fewE x).1.size ≤ 12 := by
  unfold fewE
  have h : (x.f0.extract 0 (mn (x.f0.size : Int) 12).toNat).size ≤ (mn (x.f0.size : Int) 12).toNat := by
    rw [ByteArray.size_extract]
    omega
  refine Nat.le_trans h ?_
  unfold mn
  split <;> omega
theorem mem_delN {α : Type} {A : Nat} {L : List α} {y : α} : ∀ {n : Nat}, y ∈ delN A n L → y ∈ L
  | 0, h => h
  | _ + 1, h => mem_delN (List.mem_of_mem_eraseIdx h)
theorem gd_done {x : S39} {l : Int} {p : Pl2} (h : Gd p) : Gd (doneP x l p).2 := by
  unfold doneP
  simp only
  split
  · unfold insP
    split
    · exact h
    · split
      · exact h
      · refine ⟨fun y hy => ?_, fun c hc => ?_⟩
        · rcases List.mem_append.mp hy with hy | hy
          · exact h.1 y (List.mem_of_mem_take hy)
          · rcases List.mem_cons.mp hy with rfl | hy
            · exact few12 _
            · exact h.1 y (List.mem_of_mem_drop hy)
        · rcases List.mem_append.mp hc with hc | hc
          · exact h.2 c (List.mem_of_mem_take hc)
          · rcases List.mem_cons.mp hc with rfl | hc
            · omega
            · exact h.2 c (List.mem_of_mem_drop hc)
  · split
    · show Gd (delP _ _).2
      unfold delP
      split
      · exact ⟨fun y hy => h.1 y (List.mem_of_mem_eraseIdx hy), fun c hc => h.2 c (List.mem_of_mem_eraseIdx hc)⟩
      · exact h
    · split
      · exact h
      · exact ⟨fun y hy => h.1 y (mem_delN hy), fun c hc => h.2 c (mem_delN hc)⟩
/-- An empty reference list. -/
theorem rf_new (m : Nat) (w : World) (hm : m ≤ w.heap.size) : Rf m (w.alloc (.cells #[.slice none 0 0, .slice none 0 0] 47)) w.heap.size [w.heap.size] ([], []) := by
  refine ⟨⟨_, _, World.alloc_heap_new w _, Kd.R_nil _ _ _ _ _, Kd.R_nil _ _ _ _ _⟩, List.mem_singleton.mpr rfl, fun k hk => ?_, fun k hk => ?_⟩
  · rw [List.mem_singleton.mp hk, World.size_alloc]; omega
  · rw [List.mem_singleton.mp hk]; exact hm
theorem rangeP_all (p : Pl2) : rangeP p 0 (p.1.length : Int) = p.1 := by
  have hF : inF p.1.length 0 = 0 := by unfold inF mx mn; split <;> split <;> omega
  have hT : inT p.1.length 0 (p.1.length : Int) = p.1.length := by unfold inT; rw [hF]; unfold mx mn; split <;> split <;> omega
  unfold rangeP
  rw [hF, hT]
  show (p.1.drop 0).take (((p.1.length : Nat) : Int).toNat - 0) = p.1
  rw [List.drop_zero, show ((p.1.length : Nat) : Int).toNat - 0 = p.1.length by omega, List.take_length]
end
end Go.Proofs.Ytnlbdmiflihghaa.P

/- The statement SkipDoes: the list does what the reference does. Conditions: each theorem names its own. -/
namespace Go.Proofs.Ytnlbdmiflihghaa.P
open Go.RowKit Go.Shelf Go.Proofs.YtnlbdmiflihghaaW.PrintWords Go.Proofs.YtnlbdmiflihghaaW.PrintLast Go.Proofs.YtnlbdmiflihghaaW.PrintMore Go.Proofs.Ytnlbdmiflihghaa.SK
attribute [local go_sem] Oper.semAt_some

--DEFS10
def bs10 (n : Nat) : Array Bool := ((List.range 91).map fun i => n.testBit i).toArray
def T10 : Bool × List (List Nat × List Nat) := (true, [([], []), ([0], [0]), ([1], [1]), ([2], [2]), ([3, 2, 2], [2, 3]), ([2], [2]), ([5, 2], [2, 5]), ([6, 2], [2, 6]), ([7, 2], [2, 7]), ([8, 2], [2, 8]), ([4, 9, 2], [2, 4, 9]), ([2, 10], [2, 10]), ([11, 4], [11]), ([12], [12]), ([13, 12, 12], [12, 13]), ([12], [12]), ([15, 14, 12], [12, 15]), ([14, 16, 12], [12, 14, 16]), ([12, 17], [12, 17]), ([18, 16], [18]), ([19], [19]), ([19], [19]), ([21, 19, 19], [19, 21]), ([20, 22, 22, 19], [19, 20, 22]), ([19], [19]), ([24, 19], [19, 24]), ([25, 19], [19, 25]), ([26, 19], [19, 26]), ([23, 27, 23, 19], [19, 23, 27]), ([28, 19], [19, 28]), ([19, 29], [19, 29]), ([30, 28], [30]), ([31], [31]), ([31], [31]), ([33, 31], [31, 33]), ([31], [31]), ([35, 31], [31, 35]), ([32, 34, 36, 31, 31], [31, 32, 34, 36]), ([31], [31]), ([31], [31]), ([39, 31], [31, 39]), ([31], [31]), ([41, 31], [31, 41]), ([38, 40, 42, 37, 31], [31, 38, 40, 42]), ([37, 43, 43, 31], [31, 37, 43]), ([44, 31], [31, 44]), ([31, 45], [31, 45]), ([46, 44], [46]), ([47], [47]), ([47], [47]), ([49, 47], [47, 49]), ([48, 50, 47, 47], [47, 48, 50]), ([47], [47]), ([47], [47]), ([53, 47], [47, 53]), ([52, 54, 51, 47], [47, 52, 54]), ([51, 55, 55, 47], [47, 51, 55]), ([56, 47], [47, 56]), ([47, 57], [47, 57]), ([58, 56], [58]), ([59], [59]), ([59], [59]), ([61, 59], [59, 61]), ([62, 59], [59, 62]), ([63, 59, 59], [59, 63]), ([64], [64]), ([65, 64], [64, 65]), ([64], [64]), ([67, 64], [64, 67]), ([68, 64], [64, 68]), ([69, 64], [64, 69]), ([70, 64], [64, 70]), ([66, 71, 64], [64, 66, 71]), ([64, 72, 59], [59, 64, 72]), ([60, 73, 59], [59, 60, 73]), ([59, 74], [59, 74]), ([75, 64], [75]), ([76], [76]), ([77, 76, 76], [76, 77]), ([78], [78]), ([78], [78]), ([80, 78], [78, 80]), ([81, 78], [78, 81]), ([82, 78], [78, 82]), ([78], [78]), ([84, 78], [78, 84]), ([83, 85, 78], [78, 83, 85]), ([86, 78], [78, 86]), ([79, 87, 78], [78, 79, 87]), ([78, 88, 76], [76, 78, 88]), ([76, 89], [76, 89])])
def B10 : List Nat := [0, 1, 3, 7, 15, 7, 39, 103, 231, 487, 1023, 2047, 4095, 8191, 16383, 8191, 65535, 131071, 262143, 524287, 1048575, 1048575, 3145727, 8388607, 1048575, 17825791, 51380223, 118489087, 268435455, 536870911, 1073741823, 2147483647, 4294967295, 4294967295, 12884901887, 4294967295, 38654705663, 137438953471, 4294967295, 4294967295, 554050781183, 4294967295, 2203318222847, 8796093022207, 17592186044415, 35184372088831, 70368744177663, 140737488355327, 281474976710655, 281474976710655, 844424930131967, 2251799813685247, 281474976710655, 281474976710655, 9288674231451647, 36028797018963967, 72057594037927935, 144115188075855871, 288230376151711743, 576460752303423487, 1152921504606846975, 1152921504606846975, 3458764513820540927, 8070450532247928831, 17293822569102704639, 35740566642812256255, 72634054790231359487, 35740566642812256255, 183314519232488669183, 478462424411841495039, 1068758234770547146751, 2249349855487958450175, 4721213561365038366719, 9443580044234683580415, 18889465931478580854783, 37778931862957161709567, 75557863725914323419135, 151115727451828646838271, 302231454903657293676543, 604462909807314587353087, 604462909807314587353087, 1813388729421943762059263, 4231240368651202111471615, 9066943647109718810296319, 604462909807314587353087, 19947276023641381382651903, 76766789545528952593842175, 154138042000865219775037439, 309485009821345068724781055, 618970019642690137449562111, 1237940039285380274899124223]
theorem tab10 : rtab .any (opsOf Try.f6 10) = T10 := by kernel_rfl
theorem bits10 : waitsOk T10.2 B10 = true := by kernel_rfl
--END10
def paliolaw10_SkipDoes.f (_l0 : List S39) : Option Bool := some true
set_option maxHeartbeats 16000000 in
set_option maxRecDepth 100000 in
theorem paliolaw10_SkipDoes.calls (A0 : Option Addr) (c0 : Nat) (l0 : List S39) (r : Bool) (w : World) (hr0 : Kd.C k39 w A0 l0.length l0) (_hc0 : l0.length ≤ c0) (h : paliolaw10_SkipDoes.f l0 = some r) :
    Calls Try.prog 6 #[.slice A0 l0.length c0] w fun e w' => e = .returned (.bool r) ∧ Below w.heap.size w w' := by
  obtain rfl : r = true := by
    injection h with h
    exact h.symm
  clear h
  have HC := Aside0.mk hr0
  have hmx : l0.length ≤ 9223372036854775807 := hr0.2.1
  clear hr0
  generalize hn : l0.length = n at hmx HC
  have HN := Aside0.mk hn
  clear hn
  go_enter Try.func6, Try.ntmps6
  go_wp2_with fail
  refine (shown_calls w).mono ?_
  rintro e w1 ⟨rfl, hb1⟩
  have hm1 : w.heap.size ≤ w1.heap.size := hb1.size
  replace HC := Aside0.mk (Kd.C_below HC.out hb1)
  have HB1 := Aside0.mk hb1
  clear hb1
  go_wp2_with fail
  refine (ls_new w1).mono ?_
  rintro r w2 ⟨rfl, hL, hb⟩
  have hRf := rf_new w1.heap.size w2 hb.size
  have hba : Below w1.heap.size w1 (w2.alloc (.cells #[.slice none 0 0, .slice none 0 0] 47)) := hb.alloc hb.size _
  have hL2 := hL.below (w' := w2.alloc (.cells #[.slice none 0 0, .slice none 0 0] 47)) (below_alloc (Below.refl _ _) _)
  have hBt : Bth w1.heap.size w1 (w2.alloc (.cells #[.slice none 0 0, .slice none 0 0] 47)) w1.heap.size [] ([], []) w2.heap.size [w2.heap.size] ([], []) := ⟨hL2, hRf, fun c hc => by simp at hc; omega, fun c hc hc2 => by
    have h1 := hL.lt hc
    have h2 := List.mem_singleton.mp hc2
    omega, hba⟩
  have HT := Aside0.mk hBt
  clear hL hb hRf hba hL2 hBt
  obtain ⟨b, hbe⟩ : ∃ b, b = w1.heap.size := ⟨_, rfl⟩
  have HBE := Aside0.mk hbe
  rw [← hbe] at HT hm1 ⊢
  clear hbe
  go_upto_region 4 with fail
  generalize World.alloc w2 _ = w3 at HT ⊢
  generalize w2.heap.size = rr at HT ⊢
  go_wp2
  go_loopg [6] (min n 120) (fun gk v6 wr => ∃ (i : Nat) (F R : List Nat) (p : Pl2), v6 = .int .i64 (i : Int) ∧ i ≤ min n 120 ∧ gk = min n 120 - i ∧ Aside0 (Bth b w1 wr b F p rr R p) ∧ Aside0 (Gd p) ∧ p.1.length ≤ i)
  case atStart => exact ⟨0, [], _, ([], []), rfl, Nat.zero_le _, rfl, HT, ⟨gd_nil⟩, Nat.le_refl _⟩
  case round =>
    clear HT
    obtain ⟨i, F, R, p, rfl, hi, hgk, HT, HG, hpl⟩ := hrel
    by_cases hin : i < min n 120
    · have h1 : (i : Int) < (n : Int) := by omega
      have h2 : (i : Int) < 120 := by omega
      have h3 : i < n := by omega
      obtain ⟨ad, hA, hat⟩ := atA_of HC.out i h3
      subst hA
      have hat2 := hat.below (HBE.out ▸ HT.out.bl)
      generalize rdA l0 i = x at hat2 hat
      clear hat
      obtain ⟨x0, x1, x2, x3, x4, x5⟩ := hat2
      go_upto_region 8 with fail
      have hx4 : (wr.alloc (.cells #[.int .i64 x.f0, .string x.f1.f0, .int .i64 x.f1.f1, .int .i64 x.f2, .int .i64 x.f3, .int .i64 x.f4] 40)).heap[wr.heap.size]? = some (.cells #[.int .i64 x.f0, .string x.f1.f0, .int .i64 x.f1.f1, .int .i64 x.f2, .int .i64 x.f3, .int .i64 x.f4] 40 (0, 0)) := World.alloc_heap_new wr _
      have HT4 := Aside0.mk (HT.out.below (w' := wr.alloc (.cells #[.int .i64 x.f0, .string x.f1.f0, .int .i64 x.f1.f1, .int .i64 x.f2, .int .i64 x.f3, .int .i64 x.f4] 40)) (below_alloc (Below.refl _ _) _))
      have hnb : wr.heap.size ∉ b :: F := fun hc => Nat.lt_irrefl _ (HT.out.ls.lt hc)
      have hnr : wr.heap.size ∉ R := fun hc => Nat.lt_irrefl _ (HT.out.rf.lt _ hc)
      have hlt4 : wr.heap.size < (wr.alloc (.cells #[.int .i64 x.f0, .string x.f1.f0, .int .i64 x.f1.f1, .int .i64 x.f2, .int .i64 x.f3, .int .i64 x.f4] 40)).heap.size := by simp
      clear x0 x1 x2 x3 x4 x5 HT
      generalize World.alloc wr _ = w4 at hx4 HT4 hlt4 ⊢
      generalize wr.heap.size = bx at hx4 hnb hnr hlt4 ⊢
      have y0 := cell_at (j := 0) hx4 rfl
      have y1 := cell_at (j := 1) hx4 rfl
      have y2 := cell_at (j := 2) hx4 rfl
      have y3 := cell_at (j := 3) hx4 rfl
      have y4 := cell_at (j := 4) hx4 rfl
      have y5 := cell_at (j := 5) hx4 rfl
      have hdid := did_calls HT4.out (by omega) HG.out.1 x
      have HX4 := Aside0.mk hx4
      clear hx4
      go_wp2_with fail
      refine hdid.mono ?_
      rintro e w5 ⟨rfl, F5, R5, hT5, hf5⟩
      have hx5 := (hf5 bx hlt4 hnb hnr).trans HX4.out
      have HT5 := Aside0.mk hT5
      have HG5 := Aside0.mk (gd_done (x := x) (l := x.f2) HG.out)
      have hpl5 : (doneP x x.f2 p).2.1.length ≤ i + 1 := Nat.le_trans (doneP_len _ _ _) (by omega)
      clear hdid hf5 hT5 y0 y1 y2 y3 y4 y5 HX4 HT4 HG hpl hnb hnr hlt4
      generalize (doneP x x.f2 p).2 = q at HT5 HG5 hpl5
      have y4 := cell_at (j := 4) hx5 rfl
      have hat := ls_at HT5.out.ls x.f3
      have HX5 := Aside0.mk hx5
      clear hx5
      go_wp2_with fail
      refine hat.mono ?_
      rintro e w6 ⟨rfl, hb6⟩
      have hlx : bx < w5.heap.size := World.block_lt_of_cell? w5 _ y4
      have hx6 := (hb6.block bx hlx).trans HX5.out
      have HT6 := Aside0.mk (HT5.out.below hb6)
      clear hat hb6 y4 HX5 HT5 hlx
      go_upto_region 10 with fail
      have he7 : (w6.alloc (.cells #[.string (atP q x.f3).1.1, .int .i64 (atP q x.f3).1.2] 28)).heap[w6.heap.size]? = some (.cells #[.string (atP q x.f3).1.1, .int .i64 (atP q x.f3).1.2] 28 (0, 0)) := World.alloc_heap_new w6 _
      have hb7 : Below w6.heap.size w6 (w6.alloc (.cells #[.string (atP q x.f3).1.1, .int .i64 (atP q x.f3).1.2] 28)) := below_alloc (Below.refl _ _) _
      have HT7 := Aside0.mk (HT6.out.below hb7)
      have hlx : bx < w6.heap.size := World.block_lt_of_cell? w6 ⟨bx, 0, none⟩ (cell_at hx6 rfl)
      have hx7 := (hb7.block bx hlx).trans hx6
      have HFD : Aside0 (∀ m : Nat, x.f3 = (m : Int) → m < q.1.length → atP q x.f3 = (q.1.getD m zE, true)) := ⟨fun m h1 h2 => by unfold atP; rw [if_pos (by omega), h1, show ((m : Nat) : Int).toNat = m by omega]⟩
      have HFO : Aside0 (¬ (0 ≤ x.f3 ∧ x.f3 < (q.1.length : Int)) → (atP q x.f3).2 = false) := ⟨fun h => by unfold atP; rw [if_neg h]⟩
      clear HT6 hb7 hlx hx6
      generalize w6.heap.size = be at he7 ⊢
      generalize World.alloc w6 _ = w7 at he7 hx7 HT7 ⊢
      generalize atP q x.f3 = ea at he7 HFD HFO ⊢
      obtain ⟨e0, fd⟩ := ea
      obtain ⟨A, c, A', c', hblk, hc, hc', hE, hI⟩ := HT7.out.rf.blk
      have hCE := R_C hE
      rw [List.length_map] at hCE
      have hblx : bx < w7.heap.size := World.block_lt_of_cell? w7 ⟨bx, 0, none⟩ (cell_at hx7 rfl)
      have hble : be < w7.heap.size := World.block_lt_of_cell? w7 ⟨be, 0, none⟩ (cell_at he7 rfl)
      have hblr : rr < w7.heap.size := HT7.out.rf.lt _ HT7.out.rf.mem
      have KS : Aside0 (∀ w' : World, Below w7.heap.size w7 w' → w'.cell? ⟨rr, 0, none⟩ = some (.slice A q.1.length c) ∧ w'.cell? ⟨bx, 3, none⟩ = some (.int .i64 x.f2) ∧ w'.cell? ⟨bx, 4, none⟩ = some (.int .i64 x.f3) ∧ w'.cell? ⟨bx, 5, none⟩ = some (.int .i64 x.f4) ∧ w'.cell? ⟨be, 0, none⟩ = some (.string e0.1) ∧ w'.cell? ⟨be, 1, none⟩ = some (.int .i64 e0.2) ∧ Aside0 (Below w7.heap.size w7 w')) := ⟨fun w' hb => ⟨cell_at ((hb.block rr hblr).trans hblk) rfl, cell_at ((hb.block bx hblx).trans hx7) rfl, cell_at ((hb.block bx hblx).trans hx7) rfl, cell_at ((hb.block bx hblx).trans hx7) rfl, cell_at ((hb.block be hble).trans he7) rfl, cell_at ((hb.block be hble).trans he7) rfl, ⟨hb⟩⟩⟩
      have HIN : Aside0 (∀ m : Nat, x.f3 = (m : Int) → m < q.1.length → fd = true ∧ ∃ ade, A = some ade ∧ w7.cell? (ade.add (m * 2)) = some (.string e0.1) ∧ w7.cell? ⟨(ade.add (m * 2)).block, (ade.add (m * 2)).off + 1, none⟩ = some (.int .i64 e0.2)) := ⟨fun m h1 h2 => by
        have h3 := HFD.out m h1 h2
        injection h3 with h3 h4
        obtain ⟨ade, g1, g2, g3⟩ := at_E hCE m h2 h2
        exact ⟨h4, ade, g1, by rw [h3]; exact g2, by rw [h3]; exact g3⟩⟩
      have HOUT : Aside0 (¬ (0 ≤ x.f3 ∧ x.f3 < (q.1.length : Int)) → fd = false) := ⟨fun h => HFO.out h⟩
      have HCE := Aside0.mk hCE
      have HRA := Aside0.mk (rangeP_all q)
      have hL2s : (rangeP q x.f3 x.f4).length ≤ q.1.length := rangeP_le q _ _
      have hL3s : (spansP q x.f2).length ≤ q.2.length := by
        unfold spansP
        split
        · exact Nat.zero_le _
        · exact gaps_len _ _ _
      have hq2 := HT7.out.len
      clear HFD HFO he7 hx7 hblk hE hI hCE hblx hble hblr
      generalize hL2 : rangeP q x.f3 x.f4 = L2 at hL2s
      generalize hL3 : spansP q x.f2 = L3 at hL3s
      have HL2 := Aside0.mk hL2
      have HL3 := Aside0.mk hL3
      clear hL2 hL3
      generalize x.f2 = f2 at *
      generalize x.f3 = f3 at *
      generalize x.f4 = f4 at *
      have HB8 := Aside0.mk ((Below.refl w7.heap.size w7).drew)
--REGION10
      refine start_ (n := 91) (S := fun w' => w'.cell? ⟨rr, 0, none⟩ = some (.slice A q.1.length c) ∧ w'.cell? ⟨bx, 3, none⟩ = some (.int .i64 f2) ∧ w'.cell? ⟨bx, 4, none⟩ = some (.int .i64 f3) ∧ w'.cell? ⟨bx, 5, none⟩ = some (.int .i64 f4) ∧ w'.cell? ⟨be, 0, none⟩ = some (.string e0.1) ∧ w'.cell? ⟨be, 1, none⟩ = some (.int .i64 e0.2) ∧ Aside0 (Below w7.heap.size w7 w')) (ds := []) (bs10 0) (by kernel_rfl) rfl (by kernel_rfl) (KS.out _ HB8.out) (fun hHeld => ?_)
      refine with_tabW tab10 bits10 (fun HT_ HW_ => ?_)
      generalize w7.drew = w8 at HB8 hHeld ⊢
      refine pure_ (i := 0) (N := some 40) (v := ?_) (a' := ?_) (bs10 1) rfl rfl (any_of HT_.out (by kernel_rfl)) (fun _ _ _ h => h) (Or.inl ⟨by rfl, ?_⟩) ?_ ?_
      rotate_left
      · intro w'
        go_simp
        with_reducible rfl
      rotate_left
      · simp only [Act.put, List.setIfInBounds_toArray, List.set_cons_zero, List.set_cons_succ]
        rfl
      refine pure_ (i := 1) (N := some 41) (v := ?_) (a' := ?_) (bs10 3) rfl rfl (any_of HT_.out (by kernel_rfl)) (fun _ _ _ h => h) (Or.inl ⟨by rfl, ?_⟩) ?_ ?_
      rotate_left
      · intro w'
        go_simp
        with_reducible rfl
      rotate_left
      · simp only [Act.put, List.setIfInBounds_toArray, List.set_cons_zero, List.set_cons_succ]
        rfl
      refine pure_ (i := 2) (N := some 42) (v := ?_) (a' := ?_) (bs10 7) rfl rfl (any_of HT_.out (by kernel_rfl)) (fun _ _ _ h => h) (Or.inl ⟨by rfl, ?_⟩) ?_ ?_
      rotate_left
      · intro w'
        go_simp
        with_reducible rfl
      rotate_left
      · simp only [Act.put, List.setIfInBounds_toArray, List.set_cons_zero, List.set_cons_succ]
        rfl
      refine pure_ (i := 3) (N := some 43) (v := ?_) (a' := ?_) (bs10 15) rfl rfl (any_of HT_.out (by kernel_rfl)) (fun _ _ _ h => h) (Or.inl ⟨by rfl, ?_⟩) ?_ ?_
      rotate_left
      · intro w'
        go_simp
        with_reducible rfl
      rotate_left
      · simp only [Act.put, List.setIfInBounds_toArray, List.set_cons_zero, List.set_cons_succ]
        rfl
      refine pure_ (i := 5) (N := some 45) (v := ?_) (a' := ?_) (bs10 47) rfl rfl (any_of HT_.out (by kernel_rfl)) (fun _ _ _ h => h) (Or.inl ⟨by rfl, ?_⟩) ?_ ?_
      rotate_left
      · intro w'
        go_simp
        with_reducible rfl
      rotate_left
      · simp only [Act.put, List.setIfInBounds_toArray, List.set_cons_zero, List.set_cons_succ]
        rfl
      refine pure_ (i := 6) (N := some 46) (v := ?_) (a' := ?_) (bs10 111) rfl rfl (any_of HT_.out (by kernel_rfl)) (fun _ _ _ h => h) (Or.inl ⟨by rfl, ?_⟩) ?_ ?_
      rotate_left
      · intro w'
        go_simp
        with_reducible rfl
      rotate_left
      · simp only [Act.put, List.setIfInBounds_toArray, List.set_cons_zero, List.set_cons_succ]
        rfl
      refine pure_ (i := 7) (N := some 47) (v := ?_) (a' := ?_) (bs10 239) rfl rfl (any_of HT_.out (by kernel_rfl)) (fun _ _ _ h => h) (Or.inl ⟨by rfl, ?_⟩) ?_ ?_
      rotate_left
      · intro w'
        go_simp
        with_reducible rfl
      rotate_left
      · simp only [Act.put, List.setIfInBounds_toArray, List.set_cons_zero, List.set_cons_succ]
        rfl
      refine take_ (i := 8) (N := some 48) (v := ?_) (a' := ?_) (bs10 495) rfl rfl (take_ofW HT_.out HW_.out (by kernel_rfl)) (fun _ _ _ h => h) (Or.inl ⟨by rfl, ?_⟩) hHeld ?_ ?_
      rotate_left
      · rintro w' ⟨s0, s1, s2, s3, s4, s5, s6⟩
        go_simp
        with_reducible rfl
      rotate_left
      · simp only [Act.put, List.setIfInBounds_toArray, List.set_cons_zero, List.set_cons_succ]
        rfl
      refine pure_ (i := 9) (N := some 49) (v := ?_) (a' := ?_) (bs10 1007) rfl rfl (any_of HT_.out (by kernel_rfl)) (fun _ _ _ h => h) (Or.inl ⟨by rfl, ?_⟩) ?_ ?_
      rotate_left
      · intro w'
        go_simp
        with_reducible rfl
      rotate_left
      · simp only [Act.put, List.setIfInBounds_toArray, List.set_cons_zero, List.set_cons_succ]
        rfl
      refine one_ (i := 4) (N := some 44) (bs10 1023) rfl rfl (one_of HT_.out (by kernel_rfl)) (by decide) (fun K hK => ?_)
      refine goes_ Try.func12 (by kernel_rfl) rfl #[.pointer (some ⟨b, 0, none⟩)] (by rfl) rfl rfl (by (try simp only [List.map_toArray, List.map_cons, List.map_nil]); first | done | rfl) ?_
      refine (ls_len (HT7.out.below HB8.out).ls).mono ?_
      rintro e w24 ⟨rfl, rfl⟩
      refine ⟨_, rfl, ?_⟩
      refine hK.out _ _ hHeld (fun hHeld => ?_)
      clear hK K
      refine norm_ (a' := ?_) ?_ ?_
      rotate_left
      · show Act.put _ (some 44) _ = _
        simp only [Act.put, List.setIfInBounds_toArray, List.set_cons_zero, List.set_cons_succ]
        rfl
      refine pure_ (i := 10) (N := some 50) (v := ?_) (a' := ?_) (bs10 2047) rfl rfl (any_of HT_.out (by kernel_rfl)) (fun _ _ _ h => h) (Or.inl ⟨by rfl, ?_⟩) ?_ ?_
      rotate_left
      · intro w'
        go_simp
        with_reducible rfl
      rotate_left
      · simp only [Act.put, List.setIfInBounds_toArray, List.set_cons_zero, List.set_cons_succ]
        rfl
      refine pure_ (i := 11) (N := some 51) (v := ?_) (a' := ?_) (bs10 4095) rfl rfl (any_of HT_.out (by kernel_rfl)) (fun _ _ _ h => h) (Or.inl ⟨by rfl, ?_⟩) ?_ ?_
      rotate_left
      · intro w'
        go_simp
        with_reducible rfl
      rotate_left
      · simp only [Act.put, List.setIfInBounds_toArray, List.set_cons_zero, List.set_cons_succ]
        rfl
      refine pure_ (i := 12) (N := some 52) (v := ?_) (a' := ?_) (bs10 8191) rfl rfl (any_of HT_.out (by kernel_rfl)) (fun _ _ _ h => h) (Or.inl ⟨by rfl, ?_⟩) ?_ ?_
      rotate_left
      · intro w'
        go_simp
        with_reducible rfl
      rotate_left
      · simp only [Act.put, List.setIfInBounds_toArray, List.set_cons_zero, List.set_cons_succ]
        rfl
      refine pure_ (i := 13) (N := some 53) (v := ?_) (a' := ?_) (bs10 16383) rfl rfl (any_of HT_.out (by kernel_rfl)) (fun _ _ _ h => h) (Or.inl ⟨by rfl, ?_⟩) ?_ ?_
      rotate_left
      · intro w'
        go_simp
        with_reducible rfl
      rotate_left
      · simp only [Act.put, List.setIfInBounds_toArray, List.set_cons_zero, List.set_cons_succ]
        rfl
      refine pure_ (i := 15) (N := some 55) (v := ?_) (a' := ?_) (bs10 49151) rfl rfl (any_of HT_.out (by kernel_rfl)) (fun _ _ _ h => h) (Or.inl ⟨by rfl, ?_⟩) ?_ ?_
      rotate_left
      · intro w'
        go_simp
        with_reducible rfl
      rotate_left
      · simp only [Act.put, List.setIfInBounds_toArray, List.set_cons_zero, List.set_cons_succ]
        rfl
      refine one_ (i := 14) (N := some 54) (bs10 65535) rfl rfl (one_of HT_.out (by kernel_rfl)) (by decide) (fun K hK => ?_)
      refine goes_ Try.func16 (by kernel_rfl) rfl #[.pointer (some ⟨b, 0, none⟩)] (by rfl) rfl rfl (by (try simp only [List.map_toArray, List.map_cons, List.map_nil]); first | done | rfl) ?_
      refine (ls_levels (HT7.out.below HB8.out).ls).mono ?_
      rintro e w34 ⟨rfl, rfl⟩
      refine ⟨_, rfl, ?_⟩
      refine hK.out _ _ hHeld (fun hHeld => ?_)
      clear hK K
      refine norm_ (a' := ?_) ?_ ?_
      rotate_left
      · show Act.put _ (some 54) _ = _
        simp only [Act.put, List.setIfInBounds_toArray, List.set_cons_zero, List.set_cons_succ]
        rfl
      refine one_ (i := 16) (N := some 56) (bs10 131071) rfl rfl (one_of HT_.out (by kernel_rfl)) (by decide) (fun K hK => ?_)
      refine goes_ Try.func22 (by kernel_rfl) rfl #[.pointer (some ⟨rr, 0, none⟩)] (by rfl) rfl rfl (by (try simp only [List.map_toArray, List.map_cons, List.map_nil]); first | done | rfl) ?_
      refine (rlevels_calls (HT7.out.below HB8.out).rf).mono ?_
      rintro e w36 ⟨rfl, rfl⟩
      refine ⟨_, rfl, ?_⟩
      refine hK.out _ _ hHeld (fun hHeld => ?_)
      clear hK K
      refine norm_ (a' := ?_) ?_ ?_
      rotate_left
      · show Act.put _ (some 56) _ = _
        simp only [Act.put, List.setIfInBounds_toArray, List.set_cons_zero, List.set_cons_succ]
        rfl
      refine pure_ (i := 17) (N := some 57) (v := ?_) (a' := ?_) (bs10 262143) rfl rfl (any_of HT_.out (by kernel_rfl)) (fun _ _ _ h => h) (Or.inl ⟨by rfl, ?_⟩) ?_ ?_
      rotate_left
      · intro w'
        go_simp
        with_reducible rfl
      rotate_left
      · simp only [Act.put, List.setIfInBounds_toArray, List.set_cons_zero, List.set_cons_succ]
        rfl
      refine pure_ (i := 18) (N := some 58) (v := ?_) (a' := ?_) (bs10 524287) rfl rfl (any_of HT_.out (by kernel_rfl)) (fun _ _ _ h => h) (Or.inl ⟨by rfl, ?_⟩) ?_ ?_
      rotate_left
      · intro w'
        go_simp
        with_reducible rfl
      rotate_left
      · simp only [Act.put, List.setIfInBounds_toArray, List.set_cons_zero, List.set_cons_succ]
        rfl
      refine pure_ (i := 19) (N := some 59) (v := ?_) (a' := ?_) (bs10 1048575) rfl rfl (any_of HT_.out (by kernel_rfl)) (fun _ _ _ h => h) (Or.inl ⟨by rfl, ?_⟩) ?_ ?_
      rotate_left
      · intro w'
        go_simp
        with_reducible rfl
      rotate_left
      · simp only [Act.put, List.setIfInBounds_toArray, List.set_cons_zero, List.set_cons_succ]
        rfl
      refine pure_ (i := 20) (N := some 60) (v := ?_) (a' := ?_) (bs10 2097151) rfl rfl (any_of HT_.out (by kernel_rfl)) (fun _ _ _ h => h) (Or.inl ⟨by rfl, ?_⟩) ?_ ?_
      rotate_left
      · intro w'
        go_simp
        with_reducible rfl
      rotate_left
      · simp only [Act.put, List.setIfInBounds_toArray, List.set_cons_zero, List.set_cons_succ]
        rfl
      refine pure_ (i := 21) (N := some 61) (v := ?_) (a' := ?_) (bs10 4194303) rfl rfl (any_of HT_.out (by kernel_rfl)) (fun _ _ _ h => h) (Or.inl ⟨by rfl, ?_⟩) ?_ ?_
      rotate_left
      · intro w'
        go_simp
        with_reducible rfl
      rotate_left
      · simp only [Act.put, List.setIfInBounds_toArray, List.set_cons_zero, List.set_cons_succ]
        rfl
      refine pure_ (i := 24) (N := some 64) (v := ?_) (a' := ?_) (bs10 20971519) rfl rfl (any_of HT_.out (by kernel_rfl)) (fun _ _ _ h => h) (Or.inl ⟨by rfl, ?_⟩) ?_ ?_
      rotate_left
      · intro w'
        go_simp
        with_reducible rfl
      rotate_left
      · simp only [Act.put, List.setIfInBounds_toArray, List.set_cons_zero, List.set_cons_succ]
        rfl
      refine pure_ (i := 25) (N := some 65) (v := ?_) (a' := ?_) (bs10 54525951) rfl rfl (any_of HT_.out (by kernel_rfl)) (fun _ _ _ h => h) (Or.inl ⟨by rfl, ?_⟩) ?_ ?_
      rotate_left
      · intro w'
        go_simp
        with_reducible rfl
      rotate_left
      · simp only [Act.put, List.setIfInBounds_toArray, List.set_cons_zero, List.set_cons_succ]
        rfl
      refine pure_ (i := 26) (N := some 66) (v := ?_) (a' := ?_) (bs10 121634815) rfl rfl (any_of HT_.out (by kernel_rfl)) (fun _ _ _ h => h) (Or.inl ⟨by rfl, ?_⟩) ?_ ?_
      rotate_left
      · intro w'
        go_simp
        with_reducible rfl
      rotate_left
      · simp only [Act.put, List.setIfInBounds_toArray, List.set_cons_zero, List.set_cons_succ]
        rfl
      refine take_ (i := 27) (N := some 67) (v := ?_) (a' := ?_) (bs10 255852543) rfl rfl (take_ofW HT_.out HW_.out (by kernel_rfl)) (fun _ _ _ h => h) (Or.inl ⟨by rfl, ?_⟩) hHeld ?_ ?_
      rotate_left
      · rintro w' ⟨s0, s1, s2, s3, s4, s5, s6⟩
        go_simp
        with_reducible rfl
      rotate_left
      · simp only [Act.put, List.setIfInBounds_toArray, List.set_cons_zero, List.set_cons_succ]
        rfl
      refine one_ (i := 22) (N := some 62) (bs10 260046847) rfl rfl (one_of HT_.out (by kernel_rfl)) (by decide) (fun K hK => ?_)
      refine goes_ Try.func12 (by kernel_rfl) rfl #[.pointer (some ⟨b, 0, none⟩)] (by rfl) rfl rfl (by (try simp only [List.map_toArray, List.map_cons, List.map_nil]); first | done | rfl) ?_
      refine (ls_len (HT7.out.below HB8.out).ls).mono ?_
      rintro e w42 ⟨rfl, rfl⟩
      refine ⟨_, rfl, ?_⟩
      refine hK.out _ _ hHeld (fun hHeld => ?_)
      clear hK K
      refine norm_ (a' := ?_) ?_ ?_
      rotate_left
      · show Act.put _ (some 62) _ = _
        simp only [Act.put, List.setIfInBounds_toArray, List.set_cons_zero, List.set_cons_succ]
        rfl
      refine one_ (i := 23) (N := some 63) (bs10 268435455) rfl rfl (one_of HT_.out (by kernel_rfl)) (by decide) (fun K hK => ?_)
      refine goes_ Try.func20 (by kernel_rfl) rfl #[.pointer (some ⟨b, 0, none⟩), .int .i64 0, .int .i64 (q.1.length : Int)] (by rfl) rfl rfl (by (try simp only [List.map_toArray, List.map_cons, List.map_nil]); first | done | rfl) ?_
      refine (show Calls Try.prog 20 _ _ _ from HRA.out ▸ ls_range (HT7.out.below HB8.out).ls 0 (q.1.length : Int)).mono ?_
      rintro e w9 ⟨v, rfl, hR, hbn⟩
      obtain ⟨AA, ca, rfl, hca, hCA⟩ := hR.reads
      have HCA := Aside0.mk hCA
      clear hR hCA
      have HB9 : Aside0 (Below w7.heap.size w7 w9) := ⟨HB8.out.trans (hbn.mono HB8.out.size)⟩
      clear hbn
      refine ⟨_, rfl, ?_⟩
      refine hK.out _ _ (KS.out _ HB9.out) (fun hHeld => ?_)
      clear hK K
      refine norm_ (a' := ?_) ?_ ?_
      rotate_left
      · show Act.put _ (some 63) _ = _
        simp only [Act.put, List.setIfInBounds_toArray, List.set_cons_zero, List.set_cons_succ]
        rfl
      refine one_ (i := 28) (N := some 68) (bs10 536870911) rfl rfl (one_of HT_.out (by kernel_rfl)) (by decide) (fun K hK => ?_)
      refine goes_ Try.func19 (by kernel_rfl) rfl #[.slice AA q.1.length ca, .slice A q.1.length c] (by rfl) rfl rfl (by (try simp only [List.map_toArray, List.map_cons, List.map_nil]); first | done | rfl) ?_
      refine (same_calls q.1 _ rfl (by omega) AA A ca c _ HCA.out hca (Kd.C_below HCE.out HB9.out) hc).mono ?_
      rintro e w10 ⟨rfl, hbn⟩
      have HB10 : Aside0 (Below w7.heap.size w7 w10) := ⟨HB9.out.trans (hbn.mono HB9.out.size)⟩
      clear hbn
      refine ⟨_, rfl, ?_⟩
      refine hK.out _ _ (KS.out _ HB10.out) (fun hHeld => ?_)
      clear hK K
      refine norm_ (a' := ?_) ?_ ?_
      rotate_left
      · show Act.put _ (some 68) _ = _
        simp only [Act.put, List.setIfInBounds_toArray, List.set_cons_zero, List.set_cons_succ]
        rfl
      refine pure_ (i := 29) (N := some 69) (v := ?_) (a' := ?_) (bs10 1073741823) rfl rfl (any_of HT_.out (by kernel_rfl)) (fun _ _ _ h => h) (Or.inl ⟨by rfl, ?_⟩) ?_ ?_
      rotate_left
      · intro w'
        go_simp
        with_reducible rfl
      rotate_left
      · simp only [Act.put, List.setIfInBounds_toArray, List.set_cons_zero, List.set_cons_succ]
        rfl
      refine pure_ (i := 30) (N := some 70) (v := ?_) (a' := ?_) (bs10 2147483647) rfl rfl (any_of HT_.out (by kernel_rfl)) (fun _ _ _ h => h) (Or.inl ⟨by rfl, ?_⟩) ?_ ?_
      rotate_left
      · intro w'
        go_simp
        with_reducible rfl
      rotate_left
      · simp only [Act.put, List.setIfInBounds_toArray, List.set_cons_zero, List.set_cons_succ]
        rfl
      refine pure_ (i := 31) (N := some 71) (v := ?_) (a' := ?_) (bs10 4294967295) rfl rfl (any_of HT_.out (by kernel_rfl)) (fun _ _ _ h => h) (Or.inl ⟨by rfl, ?_⟩) ?_ ?_
      rotate_left
      · intro w'
        go_simp
        with_reducible rfl
      rotate_left
      · simp only [Act.put, List.setIfInBounds_toArray, List.set_cons_zero, List.set_cons_succ]
        rfl
      refine pure_ (i := 32) (N := some 72) (v := ?_) (a' := ?_) (bs10 8589934591) rfl rfl (any_of HT_.out (by kernel_rfl)) (fun _ _ _ h => h) (Or.inl ⟨by rfl, ?_⟩) ?_ ?_
      rotate_left
      · intro w'
        go_simp
        with_reducible rfl
      rotate_left
      · simp only [Act.put, List.setIfInBounds_toArray, List.set_cons_zero, List.set_cons_succ]
        rfl
      refine pure_ (i := 33) (N := some 73) (v := ?_) (a' := ?_) (bs10 17179869183) rfl rfl (any_of HT_.out (by kernel_rfl)) (fun _ _ _ h => h) (Or.inl ⟨by rfl, ?_⟩) ?_ ?_
      rotate_left
      · intro w'
        go_simp
        with_reducible rfl
      rotate_left
      · simp only [Act.put, List.setIfInBounds_toArray, List.set_cons_zero, List.set_cons_succ]
        rfl
      refine take_ (i := 34) (N := some 74) (v := ?_) (a' := ?_) (bs10 34359738367) rfl rfl (take_ofW HT_.out HW_.out (by kernel_rfl)) (fun _ _ _ h => h) (Or.inl ⟨by rfl, ?_⟩) hHeld ?_ ?_
      rotate_left
      · rintro w' ⟨s0, s1, s2, s3, s4, s5, s6⟩
        go_simp
        with_reducible rfl
      rotate_left
      · simp only [Act.put, List.setIfInBounds_toArray, List.set_cons_zero, List.set_cons_succ]
        rfl
      refine pure_ (i := 35) (N := some 75) (v := ?_) (a' := ?_) (bs10 68719476735) rfl rfl (any_of HT_.out (by kernel_rfl)) (fun _ _ _ h => h) (Or.inl ⟨by rfl, ?_⟩) ?_ ?_
      rotate_left
      · intro w'
        go_simp
        with_reducible rfl
      rotate_left
      · simp only [Act.put, List.setIfInBounds_toArray, List.set_cons_zero, List.set_cons_succ]
        rfl
      refine take_ (i := 36) (N := some 76) (v := ?_) (a' := ?_) (bs10 137438953471) rfl rfl (take_ofW HT_.out HW_.out (by kernel_rfl)) (fun _ _ _ h => h) (Or.inl ⟨by rfl, ?_⟩) hHeld ?_ ?_
      rotate_left
      · rintro w' ⟨s0, s1, s2, s3, s4, s5, s6⟩
        go_simp
        with_reducible rfl
      rotate_left
      · simp only [Act.put, List.setIfInBounds_toArray, List.set_cons_zero, List.set_cons_succ]
        rfl
      refine pure_ (i := 38) (N := some 78) (v := ?_) (a' := ?_) (bs10 412316860415) rfl rfl (any_of HT_.out (by kernel_rfl)) (fun _ _ _ h => h) (Or.inl ⟨by rfl, ?_⟩) ?_ ?_
      rotate_left
      · intro w'
        go_simp
        with_reducible rfl
      rotate_left
      · simp only [Act.put, List.setIfInBounds_toArray, List.set_cons_zero, List.set_cons_succ]
        rfl
      refine pure_ (i := 39) (N := some 79) (v := ?_) (a' := ?_) (bs10 962072674303) rfl rfl (any_of HT_.out (by kernel_rfl)) (fun _ _ _ h => h) (Or.inl ⟨by rfl, ?_⟩) ?_ ?_
      rotate_left
      · intro w'
        go_simp
        with_reducible rfl
      rotate_left
      · simp only [Act.put, List.setIfInBounds_toArray, List.set_cons_zero, List.set_cons_succ]
        rfl
      refine take_ (i := 40) (N := some 80) (v := ?_) (a' := ?_) (bs10 2061584302079) rfl rfl (take_ofW HT_.out HW_.out (by kernel_rfl)) (fun _ _ _ h => h) (Or.inl ⟨by rfl, ?_⟩) hHeld ?_ ?_
      rotate_left
      · rintro w' ⟨s0, s1, s2, s3, s4, s5, s6⟩
        go_simp
        with_reducible rfl
      rotate_left
      · simp only [Act.put, List.setIfInBounds_toArray, List.set_cons_zero, List.set_cons_succ]
        rfl
      refine pure_ (i := 41) (N := some 81) (v := ?_) (a' := ?_) (bs10 4260607557631) rfl rfl (any_of HT_.out (by kernel_rfl)) (fun _ _ _ h => h) (Or.inl ⟨by rfl, ?_⟩) ?_ ?_
      rotate_left
      · intro w'
        go_simp
        with_reducible rfl
      rotate_left
      · simp only [Act.put, List.setIfInBounds_toArray, List.set_cons_zero, List.set_cons_succ]
        rfl
      refine take_ (i := 42) (N := some 82) (v := ?_) (a' := ?_) (bs10 8658654068735) rfl rfl (take_ofW HT_.out HW_.out (by kernel_rfl)) (fun _ _ _ h => h) (Or.inl ⟨by rfl, ?_⟩) hHeld ?_ ?_
      rotate_left
      · rintro w' ⟨s0, s1, s2, s3, s4, s5, s6⟩
        go_simp
        with_reducible rfl
      rotate_left
      · simp only [Act.put, List.setIfInBounds_toArray, List.set_cons_zero, List.set_cons_succ]
        rfl
      refine one_ (i := 37) (N := some 77) (bs10 8796093022207) rfl rfl (one_of HT_.out (by kernel_rfl)) (by decide) (fun K hK => ?_)
      refine goes_ Try.func20 (by kernel_rfl) rfl #[.pointer (some ⟨b, 0, none⟩), .int .i64 f3, .int .i64 f4] (by rfl) rfl rfl (by (try simp only [List.map_toArray, List.map_cons, List.map_nil]); first | done | rfl) ?_
      refine (show Calls Try.prog 20 _ _ _ from HL2.out ▸ ls_range (HT7.out.below HB10.out).ls f3 f4).mono ?_
      rintro e w11 ⟨v, rfl, hR, hbn⟩
      obtain ⟨AB, cb, rfl, hcb, hCB⟩ := hR.reads
      have HCB := Aside0.mk hCB
      clear hR hCB
      have HB11 : Aside0 (Below w7.heap.size w7 w11) := ⟨HB10.out.trans (hbn.mono HB10.out.size)⟩
      clear hbn
      refine ⟨_, rfl, ?_⟩
      refine hK.out _ _ (KS.out _ HB11.out) (fun hHeld => ?_)
      clear hK K
      refine norm_ (a' := ?_) ?_ ?_
      rotate_left
      · show Act.put _ (some 77) _ = _
        simp only [Act.put, List.setIfInBounds_toArray, List.set_cons_zero, List.set_cons_succ]
        rfl
      refine one_ (i := 43) (N := some 83) (bs10 17592186044415) rfl rfl (one_of HT_.out (by kernel_rfl)) (by decide) (fun K hK => ?_)
      refine goes_ Try.func23 (by kernel_rfl) rfl #[.pointer (some ⟨rr, 0, none⟩), .int .i64 f3, .int .i64 f4] (by rfl) rfl rfl (by (try simp only [List.map_toArray, List.map_cons, List.map_nil]); first | done | rfl) ?_
      refine (show Calls Try.prog 23 _ _ _ from HL2.out ▸ rrange_calls (HT7.out.below HB11.out).rf f3 f4).mono ?_
      rintro e w63 ⟨⟨AC, cc, rfl, hcc, hCC⟩, rfl⟩
      have HCC := Aside0.mk hCC
      clear hCC
      refine ⟨_, rfl, ?_⟩
      refine hK.out _ _ hHeld (fun hHeld => ?_)
      clear hK K
      refine norm_ (a' := ?_) ?_ ?_
      rotate_left
      · show Act.put _ (some 83) _ = _
        simp only [Act.put, List.setIfInBounds_toArray, List.set_cons_zero, List.set_cons_succ]
        rfl
      refine one_ (i := 44) (N := some 84) (bs10 35184372088831) rfl rfl (one_of HT_.out (by kernel_rfl)) (by decide) (fun K hK => ?_)
      refine goes_ Try.func19 (by kernel_rfl) rfl #[.slice AB L2.length cb, .slice AC L2.length cc] (by rfl) rfl rfl (by (try simp only [List.map_toArray, List.map_cons, List.map_nil]); first | done | rfl) ?_
      refine (same_calls L2 _ rfl (by omega) AB AC cb cc _ HCB.out hcb HCC.out hcc).mono ?_
      rintro e w12 ⟨rfl, hbn⟩
      have HB12 : Aside0 (Below w7.heap.size w7 w12) := ⟨HB11.out.trans (hbn.mono HB11.out.size)⟩
      clear hbn
      refine ⟨_, rfl, ?_⟩
      refine hK.out _ _ (KS.out _ HB12.out) (fun hHeld => ?_)
      clear hK K
      refine norm_ (a' := ?_) ?_ ?_
      rotate_left
      · show Act.put _ (some 84) _ = _
        simp only [Act.put, List.setIfInBounds_toArray, List.set_cons_zero, List.set_cons_succ]
        rfl
      refine pure_ (i := 45) (N := some 85) (v := ?_) (a' := ?_) (bs10 70368744177663) rfl rfl (any_of HT_.out (by kernel_rfl)) (fun _ _ _ h => h) (Or.inl ⟨by rfl, ?_⟩) ?_ ?_
      rotate_left
      · intro w'
        go_simp
        with_reducible rfl
      rotate_left
      · simp only [Act.put, List.setIfInBounds_toArray, List.set_cons_zero, List.set_cons_succ]
        rfl
      refine pure_ (i := 46) (N := some 86) (v := ?_) (a' := ?_) (bs10 140737488355327) rfl rfl (any_of HT_.out (by kernel_rfl)) (fun _ _ _ h => h) (Or.inl ⟨by rfl, ?_⟩) ?_ ?_
      rotate_left
      · intro w'
        go_simp
        with_reducible rfl
      rotate_left
      · simp only [Act.put, List.setIfInBounds_toArray, List.set_cons_zero, List.set_cons_succ]
        rfl
      refine pure_ (i := 47) (N := some 87) (v := ?_) (a' := ?_) (bs10 281474976710655) rfl rfl (any_of HT_.out (by kernel_rfl)) (fun _ _ _ h => h) (Or.inl ⟨by rfl, ?_⟩) ?_ ?_
      rotate_left
      · intro w'
        go_simp
        with_reducible rfl
      rotate_left
      · simp only [Act.put, List.setIfInBounds_toArray, List.set_cons_zero, List.set_cons_succ]
        rfl
      refine pure_ (i := 48) (N := some 88) (v := ?_) (a' := ?_) (bs10 562949953421311) rfl rfl (any_of HT_.out (by kernel_rfl)) (fun _ _ _ h => h) (Or.inl ⟨by rfl, ?_⟩) ?_ ?_
      rotate_left
      · intro w'
        go_simp
        with_reducible rfl
      rotate_left
      · simp only [Act.put, List.setIfInBounds_toArray, List.set_cons_zero, List.set_cons_succ]
        rfl
      refine pure_ (i := 49) (N := some 89) (v := ?_) (a' := ?_) (bs10 1125899906842623) rfl rfl (any_of HT_.out (by kernel_rfl)) (fun _ _ _ h => h) (Or.inl ⟨by rfl, ?_⟩) ?_ ?_
      rotate_left
      · intro w'
        go_simp
        with_reducible rfl
      rotate_left
      · simp only [Act.put, List.setIfInBounds_toArray, List.set_cons_zero, List.set_cons_succ]
        rfl
      refine take_ (i := 50) (N := some 90) (v := ?_) (a' := ?_) (bs10 2251799813685247) rfl rfl (take_ofW HT_.out HW_.out (by kernel_rfl)) (fun _ _ _ h => h) (Or.inl ⟨by rfl, ?_⟩) hHeld ?_ ?_
      rotate_left
      · rintro w' ⟨s0, s1, s2, s3, s4, s5, s6⟩
        go_simp
        with_reducible rfl
      rotate_left
      · simp only [Act.put, List.setIfInBounds_toArray, List.set_cons_zero, List.set_cons_succ]
        rfl
      refine pure_ (i := 52) (N := some 92) (v := ?_) (a' := ?_) (bs10 6755399441055743) rfl rfl (any_of HT_.out (by kernel_rfl)) (fun _ _ _ h => h) (Or.inl ⟨by rfl, ?_⟩) ?_ ?_
      rotate_left
      · intro w'
        go_simp
        with_reducible rfl
      rotate_left
      · simp only [Act.put, List.setIfInBounds_toArray, List.set_cons_zero, List.set_cons_succ]
        rfl
      refine pure_ (i := 53) (N := some 93) (v := ?_) (a' := ?_) (bs10 15762598695796735) rfl rfl (any_of HT_.out (by kernel_rfl)) (fun _ _ _ h => h) (Or.inl ⟨by rfl, ?_⟩) ?_ ?_
      rotate_left
      · intro w'
        go_simp
        with_reducible rfl
      rotate_left
      · simp only [Act.put, List.setIfInBounds_toArray, List.set_cons_zero, List.set_cons_succ]
        rfl
      refine take_ (i := 54) (N := some 94) (v := ?_) (a' := ?_) (bs10 33776997205278719) rfl rfl (take_ofW HT_.out HW_.out (by kernel_rfl)) (fun _ _ _ h => h) (Or.inl ⟨by rfl, ?_⟩) hHeld ?_ ?_
      rotate_left
      · rintro w' ⟨s0, s1, s2, s3, s4, s5, s6⟩
        go_simp
        with_reducible rfl
      rotate_left
      · simp only [Act.put, List.setIfInBounds_toArray, List.set_cons_zero, List.set_cons_succ]
        rfl
      refine one_ (i := 51) (N := some 91) (bs10 36028797018963967) rfl rfl (one_of HT_.out (by kernel_rfl)) (by decide) (fun K hK => ?_)
      refine goes_ Try.func15 (by kernel_rfl) rfl #[.pointer (some ⟨b, 0, none⟩), .int .i64 f2] (by rfl) rfl rfl (by (try simp only [List.map_toArray, List.map_cons, List.map_nil]); first | done | rfl) ?_
      refine (show Calls Try.prog 15 _ _ _ from HL3.out ▸ ls_spans (HT7.out.below HB12.out).ls f2).mono ?_
      rintro e w13 ⟨v, rfl, hR, hbn⟩
      obtain ⟨AD, cd, rfl, hcd, hCD⟩ := hR.reads
      have HCD := Aside0.mk hCD
      clear hR hCD
      have HB13 : Aside0 (Below w7.heap.size w7 w13) := ⟨HB12.out.trans (hbn.mono HB12.out.size)⟩
      clear hbn
      refine ⟨_, rfl, ?_⟩
      refine hK.out _ _ (KS.out _ HB13.out) (fun hHeld => ?_)
      clear hK K
      refine norm_ (a' := ?_) ?_ ?_
      rotate_left
      · show Act.put _ (some 91) _ = _
        simp only [Act.put, List.setIfInBounds_toArray, List.set_cons_zero, List.set_cons_succ]
        rfl
      refine one_ (i := 55) (N := some 95) (bs10 72057594037927935) rfl rfl (one_of HT_.out (by kernel_rfl)) (by decide) (fun K hK => ?_)
      refine goes_ Try.func25 (by kernel_rfl) rfl #[.pointer (some ⟨rr, 0, none⟩), .int .i64 f2] (by rfl) rfl rfl (by (try simp only [List.map_toArray, List.map_cons, List.map_nil]); first | done | rfl) ?_
      refine (show Calls Try.prog 25 _ _ _ from HL3.out ▸ rspans_calls (HT7.out.below HB13.out).rf HG5.out.2 (by have := (HT7.out.below HB13.out).len; omega) f2).mono ?_
      rintro e w14 ⟨v, rfl, hR, hbn⟩
      obtain ⟨AE, ce, rfl, hce, hCE⟩ := hR.reads
      have HCD2 := Aside0.mk (Kd.C_below HCD.out hbn)
      have HCE2 := Aside0.mk hCE
      clear hR hCE
      have HB14 : Aside0 (Below w7.heap.size w7 w14) := ⟨HB13.out.trans (hbn.mono HB13.out.size)⟩
      clear hbn
      refine ⟨_, rfl, ?_⟩
      refine hK.out _ _ (KS.out _ HB14.out) (fun hHeld => ?_)
      clear hK K
      refine norm_ (a' := ?_) ?_ ?_
      rotate_left
      · show Act.put _ (some 95) _ = _
        simp only [Act.put, List.setIfInBounds_toArray, List.set_cons_zero, List.set_cons_succ]
        rfl
      refine one_ (i := 56) (N := some 96) (bs10 144115188075855871) rfl rfl (one_of HT_.out (by kernel_rfl)) (by decide) (fun K hK => ?_)
      refine goes_ Try.func24 (by kernel_rfl) rfl #[.slice AD L3.length cd, .slice AE L3.length ce] (by rfl) rfl rfl (by (try simp only [List.map_toArray, List.map_cons, List.map_nil]); first | done | rfl) ?_
      refine (ints_calls L3 _ rfl (by omega) AD AE cd ce _ HCD2.out hcd HCE2.out hce).mono ?_
      rintro e w15 ⟨rfl, hbn⟩
      have HB15 : Aside0 (Below w7.heap.size w7 w15) := ⟨HB14.out.trans (hbn.mono HB14.out.size)⟩
      clear hbn
      refine ⟨_, rfl, ?_⟩
      refine hK.out _ _ (KS.out _ HB15.out) (fun hHeld => ?_)
      clear hK K
      refine norm_ (a' := ?_) ?_ ?_
      rotate_left
      · show Act.put _ (some 96) _ = _
        simp only [Act.put, List.setIfInBounds_toArray, List.set_cons_zero, List.set_cons_succ]
        rfl
      refine pure_ (i := 57) (N := some 97) (v := ?_) (a' := ?_) (bs10 288230376151711743) rfl rfl (any_of HT_.out (by kernel_rfl)) (fun _ _ _ h => h) (Or.inl ⟨by rfl, ?_⟩) ?_ ?_
      rotate_left
      · intro w'
        go_simp
        with_reducible rfl
      rotate_left
      · simp only [Act.put, List.setIfInBounds_toArray, List.set_cons_zero, List.set_cons_succ]
        rfl
      refine pure_ (i := 58) (N := some 98) (v := ?_) (a' := ?_) (bs10 576460752303423487) rfl rfl (any_of HT_.out (by kernel_rfl)) (fun _ _ _ h => h) (Or.inl ⟨by rfl, ?_⟩) ?_ ?_
      rotate_left
      · intro w'
        go_simp
        with_reducible rfl
      rotate_left
      · simp only [Act.put, List.setIfInBounds_toArray, List.set_cons_zero, List.set_cons_succ]
        rfl
      refine pure_ (i := 59) (N := some 99) (v := ?_) (a' := ?_) (bs10 1152921504606846975) rfl rfl (any_of HT_.out (by kernel_rfl)) (fun _ _ _ h => h) (Or.inl ⟨by rfl, ?_⟩) ?_ ?_
      rotate_left
      · intro w'
        go_simp
        with_reducible rfl
      rotate_left
      · simp only [Act.put, List.setIfInBounds_toArray, List.set_cons_zero, List.set_cons_succ]
        rfl
      refine pure_ (i := 60) (N := some 100) (v := ?_) (a' := ?_) (bs10 2305843009213693951) rfl rfl (any_of HT_.out (by kernel_rfl)) (fun _ _ _ h => h) (Or.inl ⟨by rfl, ?_⟩) ?_ ?_
      rotate_left
      · intro w'
        go_simp
        with_reducible rfl
      rotate_left
      · simp only [Act.put, List.setIfInBounds_toArray, List.set_cons_zero, List.set_cons_succ]
        rfl
      refine pure_ (i := 61) (N := some 101) (v := ?_) (a' := ?_) (bs10 4611686018427387903) rfl rfl (any_of HT_.out (by kernel_rfl)) (fun _ _ _ h => h) (Or.inl ⟨by rfl, ?_⟩) ?_ ?_
      rotate_left
      · intro w'
        go_simp
        with_reducible rfl
      rotate_left
      · simp only [Act.put, List.setIfInBounds_toArray, List.set_cons_zero, List.set_cons_succ]
        rfl
      refine take_ (i := 62) (N := some 102) (v := ?_) (a' := ?_) (bs10 9223372036854775807) rfl rfl (take_ofW HT_.out HW_.out (by kernel_rfl)) (fun _ _ _ h => h) (Or.inl ⟨by rfl, ?_⟩) hHeld ?_ ?_
      rotate_left
      · rintro w' ⟨s0, s1, s2, s3, s4, s5, s6⟩
        go_simp
        with_reducible rfl
      rotate_left
      · simp only [Act.put, List.setIfInBounds_toArray, List.set_cons_zero, List.set_cons_succ]
        rfl
      by_cases hz : 0 ≤ f3
      · obtain ⟨m, rfl⟩ : ∃ m : Nat, f3 = (m : Int) := ⟨f3.toNat, by omega⟩
        have hz2 : (m : Int) ≥ 0 := hz
        by_cases hl : m < q.1.length
        · obtain ⟨rfl, ade, hAe, ce0, ce1⟩ := HIN.out m rfl hl
          subst hAe
          have hl2 : (m : Int) < (q.1.length : Int) := by omega
          have HCE0 := Aside0.mk ce0
          have HCE1 := Aside0.mk ce1
          clear ce0 ce1
          have hne : ∀ w : World, (binOp .neq 28 (.agg #[.string e0.1, .int .i64 e0.2]) (.agg #[.string e0.1, .int .i64 e0.2])).run Try.prog w = .ok (.bool false) w := fun w => by rw [neq_entry, show eqE e0 e0 = true from eqE_iff.mpr rfl]; rfl
          refine pure_ (i := 63) (N := some 103) (v := ?_) (a' := ?_) (bs10 18446744073709551615) rfl rfl (any_of HT_.out (by kernel_rfl)) (fun _ _ _ h => h) (Or.inl ⟨by rfl, ?_⟩) ?_ ?_
          rotate_left
          · intro w'
            go_simp
            with_reducible rfl
          rotate_left
          · simp only [Act.put, List.setIfInBounds_toArray, List.set_cons_zero, List.set_cons_succ]
            rfl
          refine pure_ (i := 64) (N := some 104) (v := ?_) (a' := ?_) (bs10 36893488147419103231) rfl rfl (any_of HT_.out (by kernel_rfl)) (fun _ _ _ h => h) (Or.inl ⟨by rfl, ?_⟩) ?_ ?_
          rotate_left
          · intro w'
            go_simp
            with_reducible rfl
          rotate_left
          · simp only [Act.put, List.setIfInBounds_toArray, List.set_cons_zero, List.set_cons_succ]
            rfl
          refine pure_ (i := 65) (N := some 105) (v := ?_) (a' := ?_) (bs10 73786976294838206463) rfl rfl (any_of HT_.out (by kernel_rfl)) (fun _ _ _ h => h) (Or.inl ⟨by rfl, ?_⟩) ?_ ?_
          rotate_left
          · intro w'
            go_simp
            with_reducible rfl
          rotate_left
          · simp only [Act.put, List.setIfInBounds_toArray, List.set_cons_zero, List.set_cons_succ]
            rfl
          refine take_ (i := 66) (N := some 106) (v := ?_) (a' := ?_) (bs10 147573952589676412927) rfl rfl (take_ofW HT_.out HW_.out (by kernel_rfl)) (fun _ _ _ h => h) (Or.inl ⟨by rfl, ?_⟩) hHeld ?_ ?_
          rotate_left
          · rintro w' ⟨s0, s1, s2, s3, s4, s5, s6⟩
            go_simp
            with_reducible rfl
          rotate_left
          · simp only [Act.put, List.setIfInBounds_toArray, List.set_cons_zero, List.set_cons_succ]
            rfl
          refine pure_ (i := 67) (N := some 107) (v := ?_) (a' := ?_) (bs10 295147905179352825855) rfl rfl (any_of HT_.out (by kernel_rfl)) (fun _ _ _ h => h) (Or.inl ⟨by rfl, ?_⟩) ?_ ?_
          rotate_left
          · intro w'
            go_simp
            with_reducible rfl
          rotate_left
          · simp only [Act.put, List.setIfInBounds_toArray, List.set_cons_zero, List.set_cons_succ]
            rfl
          refine pure_ (i := 68) (N := some 108) (v := ?_) (a' := ?_) (bs10 590295810358705651711) rfl rfl (any_of HT_.out (by kernel_rfl)) (fun _ _ _ h => h) (Or.inl ⟨by rfl, ?_⟩) ?_ ?_
          rotate_left
          · intro w'
            go_simp
            with_reducible rfl
          rotate_left
          · simp only [Act.put, List.setIfInBounds_toArray, List.set_cons_zero, List.set_cons_succ]
            rfl
          refine pure_ (i := 69) (N := some 109) (v := ?_) (a' := ?_) (bs10 1180591620717411303423) rfl rfl (any_of HT_.out (by kernel_rfl)) (fun _ _ _ h => h) (Or.inl ⟨by rfl, ?_⟩) ?_ ?_
          rotate_left
          · intro w'
            go_simp
            with_reducible rfl
          rotate_left
          · simp only [Act.put, List.setIfInBounds_toArray, List.set_cons_zero, List.set_cons_succ]
            rfl
          refine take_ (i := 70) (N := some 110) (v := ?_) (a' := ?_) (bs10 2361183241434822606847) rfl rfl (take_ofW HT_.out HW_.out (by kernel_rfl)) (fun _ _ _ h => h) (Or.inl ⟨by rfl, ?_⟩) hHeld ?_ ?_
          rotate_left
          · rintro w' ⟨s0, s1, s2, s3, s4, s5, s6⟩
            go_simp
            with_reducible rfl
          rotate_left
          · simp only [Act.put, List.setIfInBounds_toArray, List.set_cons_zero, List.set_cons_succ]
            rfl
          refine pure_ (i := 71) (N := some 111) (v := ?_) (a' := ?_) (bs10 4722366482869645213695) rfl rfl (any_of HT_.out (by kernel_rfl)) (fun _ _ _ h => h) (Or.inl ⟨by rfl, ?_⟩) ?_ ?_
          rotate_left
          · intro w'
            go_simp
            with_reducible rfl
          rotate_left
          · simp only [Act.put, List.setIfInBounds_toArray, List.set_cons_zero, List.set_cons_succ]
            rfl
          refine pure_ (i := 72) (N := some 112) (v := ?_) (a' := ?_) (bs10 9444732965739290427391) rfl rfl (any_of HT_.out (by kernel_rfl)) (fun _ _ _ h => h) (Or.inl ⟨by rfl, ?_⟩) ?_ ?_
          rotate_left
          · intro w'
            go_simp
            with_reducible rfl
          rotate_left
          · simp only [Act.put, List.setIfInBounds_toArray, List.set_cons_zero, List.set_cons_succ]
            rfl
          refine pure_ (i := 73) (N := some 113) (v := ?_) (a' := ?_) (bs10 18889465931478580854783) rfl rfl (any_of HT_.out (by kernel_rfl)) (fun _ _ _ h => h) (Or.inl ⟨by rfl, ?_⟩) ?_ ?_
          rotate_left
          · intro w'
            go_simp
            with_reducible rfl
          rotate_left
          · simp only [Act.put, List.setIfInBounds_toArray, List.set_cons_zero, List.set_cons_succ]
            rfl
          refine pure_ (i := 74) (N := some 114) (v := ?_) (a' := ?_) (bs10 37778931862957161709567) rfl rfl (any_of HT_.out (by kernel_rfl)) (fun _ _ _ h => h) (Or.inl ⟨by rfl, ?_⟩) ?_ ?_
          rotate_left
          · intro w'
            go_simp
            with_reducible rfl
          rotate_left
          · simp only [Act.put, List.setIfInBounds_toArray, List.set_cons_zero, List.set_cons_succ]
            rfl
          refine pure_ (i := 75) (N := some 115) (v := ?_) (a' := ?_) (bs10 75557863725914323419135) rfl rfl (any_of HT_.out (by kernel_rfl)) (fun _ _ _ h => h) (Or.inl ⟨by rfl, ?_⟩) ?_ ?_
          rotate_left
          · intro w'
            go_simp
            with_reducible rfl
          rotate_left
          · simp only [Act.put, List.setIfInBounds_toArray, List.set_cons_zero, List.set_cons_succ]
            rfl
          refine pure_ (i := 76) (N := some 116) (v := ?_) (a' := ?_) (bs10 151115727451828646838271) rfl rfl (any_of HT_.out (by kernel_rfl)) (fun _ _ _ h => h) (Or.inl ⟨by rfl, ?_⟩) ?_ ?_
          rotate_left
          · intro w'
            go_simp
            with_reducible rfl
          rotate_left
          · simp only [Act.put, List.setIfInBounds_toArray, List.set_cons_zero, List.set_cons_succ]
            rfl
          refine pure_ (i := 77) (N := some 117) (v := ?_) (a' := ?_) (bs10 302231454903657293676543) rfl rfl (any_of HT_.out (by kernel_rfl)) (fun _ _ _ h => h) (Or.inl ⟨by rfl, ?_⟩) ?_ ?_
          rotate_left
          · intro w'
            go_simp
            with_reducible rfl
          rotate_left
          · simp only [Act.put, List.setIfInBounds_toArray, List.set_cons_zero, List.set_cons_succ]
            rfl
          refine pure_ (i := 78) (N := some 118) (v := ?_) (a' := ?_) (bs10 604462909807314587353087) rfl rfl (any_of HT_.out (by kernel_rfl)) (fun _ _ _ h => h) (Or.inl ⟨by rfl, ?_⟩) ?_ ?_
          rotate_left
          · intro w'
            go_simp
            with_reducible rfl
          rotate_left
          · simp only [Act.put, List.setIfInBounds_toArray, List.set_cons_zero, List.set_cons_succ]
            rfl
          refine take_ (i := 79) (N := some 119) (v := ?_) (a' := ?_) (bs10 1208925819614629174706175) rfl rfl (take_ofW HT_.out HW_.out (by kernel_rfl)) (fun _ _ _ h => h) (Or.inl ⟨by rfl, ?_⟩) hHeld ?_ ?_
          rotate_left
          · rintro w' ⟨s0, s1, s2, s3, s4, s5, s6⟩
            go_simp
            with_reducible rfl
          rotate_left
          · simp only [Act.put, List.setIfInBounds_toArray, List.set_cons_zero, List.set_cons_succ]
            rfl
          refine pure_ (i := 80) (N := some 120) (v := ?_) (a' := ?_) (bs10 2417851639229258349412351) rfl rfl (any_of HT_.out (by kernel_rfl)) (fun _ _ _ h => h) (Or.inl ⟨by rfl, ?_⟩) ?_ ?_
          rotate_left
          · intro w'
            go_simp
            with_reducible rfl
          rotate_left
          · simp only [Act.put, List.setIfInBounds_toArray, List.set_cons_zero, List.set_cons_succ]
            rfl
          refine pure_ (i := 81) (N := some 121) (v := ?_) (a' := ?_) (bs10 4835703278458516698824703) rfl rfl (any_of HT_.out (by kernel_rfl)) (fun _ _ _ h => h) (Or.inl ⟨by rfl, ?_⟩) ?_ ?_
          rotate_left
          · intro w'
            go_simp
            with_reducible rfl
          rotate_left
          · simp only [Act.put, List.setIfInBounds_toArray, List.set_cons_zero, List.set_cons_succ]
            rfl
          refine pure_ (i := 82) (N := some 122) (v := ?_) (a' := ?_) (bs10 9671406556917033397649407) rfl rfl (any_of HT_.out (by kernel_rfl)) (fun _ _ _ h => h) (Or.inl ⟨by rfl, ?_⟩) ?_ ?_
          rotate_left
          · intro w'
            go_simp
            with_reducible rfl
          rotate_left
          · simp only [Act.put, List.setIfInBounds_toArray, List.set_cons_zero, List.set_cons_succ]
            rfl
          refine take_ (i := 83) (N := some 123) (v := ?_) (a' := ?_) (bs10 19342813113834066795298815) rfl rfl (take_ofW HT_.out HW_.out (by kernel_rfl)) (fun _ _ _ h => h) (Or.inl ⟨by rfl, ?_⟩) hHeld ?_ ?_
          rotate_left
          · rintro w' ⟨s0, s1, s2, s3, s4, s5, s6⟩
            go_simp
            with_reducible rfl
          rotate_left
          · simp only [Act.put, List.setIfInBounds_toArray, List.set_cons_zero, List.set_cons_succ]
            rfl
          refine pure_ (i := 84) (N := some 124) (v := ?_) (a' := ?_) (bs10 38685626227668133590597631) rfl rfl (any_of HT_.out (by kernel_rfl)) (fun _ _ _ h => h) (Or.inl ⟨by rfl, ?_⟩) ?_ ?_
          rotate_left
          · intro w'
            go_simp
            with_reducible rfl
          rotate_left
          · simp only [Act.put, List.setIfInBounds_toArray, List.set_cons_zero, List.set_cons_succ]
            rfl
          refine take_ (i := 85) (N := some 125) (v := ?_) (a' := ?_) (bs10 77371252455336267181195263) rfl rfl (take_ofW HT_.out HW_.out (by kernel_rfl)) (fun _ _ _ h => h) (Or.inl ⟨by rfl, ?_⟩) hHeld ?_ ?_
          rotate_left
          · rintro w' ⟨s0, s1, s2, s3, s4, s5, s6⟩
            go_simp
            with_reducible rfl
          rotate_left
          · simp only [Act.put, List.setIfInBounds_toArray, List.set_cons_zero, List.set_cons_succ]
            rfl
          refine pure_ (i := 86) (N := some 126) (v := ?_) (a' := ?_) (bs10 154742504910672534362390527) rfl rfl (any_of HT_.out (by kernel_rfl)) (fun _ _ _ h => h) (Or.inl ⟨by rfl, ?_⟩) ?_ ?_
          rotate_left
          · intro w'
            go_simp
            with_reducible rfl
          rotate_left
          · simp only [Act.put, List.setIfInBounds_toArray, List.set_cons_zero, List.set_cons_succ]
            rfl
          refine take_ (i := 87) (N := some 127) (v := ?_) (a' := ?_) (bs10 309485009821345068724781055) rfl rfl (take_ofW HT_.out HW_.out (by kernel_rfl)) (fun _ _ _ h => h) (Or.inl ⟨by rfl, ?_⟩) hHeld ?_ ?_
          rotate_left
          · rintro w' ⟨s0, s1, s2, s3, s4, s5, s6⟩
            have k0 := ((s6.out).cell (World.block_lt_of_cell? w7 _ HCE0.out)).trans HCE0.out; have k1 := ((s6.out).cell (World.block_lt_of_cell? w7 _ HCE1.out)).trans HCE1.out
            go_simp
            with_reducible rfl
          rotate_left
          · simp only [Act.put, List.setIfInBounds_toArray, List.set_cons_zero, List.set_cons_succ]
            rfl
          refine pure_ (i := 88) (N := some 128) (v := ?_) (a' := ?_) (bs10 618970019642690137449562111) rfl rfl (any_of HT_.out (by kernel_rfl)) (fun _ _ _ h => h) (Or.inl ⟨by rfl, ?_⟩) ?_ ?_
          rotate_left
          · intro w'
            go_simp
            with_reducible rfl
          rotate_left
          · simp only [Act.put, List.setIfInBounds_toArray, List.set_cons_zero, List.set_cons_succ]
            rfl
          refine pure_ (i := 89) (N := some 129) (v := ?_) (a' := ?_) (bs10 1237940039285380274899124223) rfl rfl (any_of HT_.out (by kernel_rfl)) (fun _ _ _ h => h) (Or.inl ⟨by rfl, ?_⟩) ?_ ?_
          rotate_left
          · intro w'
            go_simp
            with_reducible rfl
          rotate_left
          · simp only [Act.put, List.setIfInBounds_toArray, List.set_cons_zero, List.set_cons_succ]
            rfl
          refine pure_ (i := 90) (N := some 130) (v := ?_) (a' := ?_) (bs10 2475880078570760549798248447) rfl rfl (any_of HT_.out (by kernel_rfl)) (fun _ _ _ h => h) (Or.inl ⟨by rfl, ?_⟩) ?_ ?_
          rotate_left
          · intro w'
            go_simp
            with_reducible rfl
          rotate_left
          · simp only [Act.put, List.setIfInBounds_toArray, List.set_cons_zero, List.set_cons_succ]
            rfl
          refine done_ (done_of HT_.out (by kernel_rfl)) ?_
          have HTe := Aside0.mk (HT7.out.below HB15.out)
          go_wp2
          go_roundg (min n 120 - (i + 1))
          case measure => omega
          case rel => exact ⟨i + 1, F5, R5, q, congrArg (Value.int .i64) (by first | exact wrap_succ i (by omega) | omega), by omega, rfl, HTe, HG5, hpl5⟩
        · have hl2 : ¬ (m : Int) < (q.1.length : Int) := by omega
          obtain rfl := HOUT.out (fun h => hl2 h.2)
          refine pure_ (i := 63) (N := some 103) (v := ?_) (a' := ?_) (bs10 18446744073709551615) rfl rfl (any_of HT_.out (by kernel_rfl)) (fun _ _ _ h => h) (Or.inl ⟨by rfl, ?_⟩) ?_ ?_
          rotate_left
          · intro w'
            go_simp
            with_reducible rfl
          rotate_left
          · simp only [Act.put, List.setIfInBounds_toArray, List.set_cons_zero, List.set_cons_succ]
            rfl
          refine pure_ (i := 64) (N := some 104) (v := ?_) (a' := ?_) (bs10 36893488147419103231) rfl rfl (any_of HT_.out (by kernel_rfl)) (fun _ _ _ h => h) (Or.inl ⟨by rfl, ?_⟩) ?_ ?_
          rotate_left
          · intro w'
            go_simp
            with_reducible rfl
          rotate_left
          · simp only [Act.put, List.setIfInBounds_toArray, List.set_cons_zero, List.set_cons_succ]
            rfl
          refine pure_ (i := 65) (N := some 105) (v := ?_) (a' := ?_) (bs10 73786976294838206463) rfl rfl (any_of HT_.out (by kernel_rfl)) (fun _ _ _ h => h) (Or.inl ⟨by rfl, ?_⟩) ?_ ?_
          rotate_left
          · intro w'
            go_simp
            with_reducible rfl
          rotate_left
          · simp only [Act.put, List.setIfInBounds_toArray, List.set_cons_zero, List.set_cons_succ]
            rfl
          refine take_ (i := 66) (N := some 106) (v := ?_) (a' := ?_) (bs10 147573952589676412927) rfl rfl (take_ofW HT_.out HW_.out (by kernel_rfl)) (fun _ _ _ h => h) (Or.inl ⟨by rfl, ?_⟩) hHeld ?_ ?_
          rotate_left
          · rintro w' ⟨s0, s1, s2, s3, s4, s5, s6⟩
            go_simp
            with_reducible rfl
          rotate_left
          · simp only [Act.put, List.setIfInBounds_toArray, List.set_cons_zero, List.set_cons_succ]
            rfl
          refine pure_ (i := 67) (N := some 107) (v := ?_) (a' := ?_) (bs10 295147905179352825855) rfl rfl (any_of HT_.out (by kernel_rfl)) (fun _ _ _ h => h) (Or.inl ⟨by rfl, ?_⟩) ?_ ?_
          rotate_left
          · intro w'
            go_simp
            with_reducible rfl
          rotate_left
          · simp only [Act.put, List.setIfInBounds_toArray, List.set_cons_zero, List.set_cons_succ]
            rfl
          refine pure_ (i := 68) (N := some 108) (v := ?_) (a' := ?_) (bs10 590295810358705651711) rfl rfl (any_of HT_.out (by kernel_rfl)) (fun _ _ _ h => h) (Or.inl ⟨by rfl, ?_⟩) ?_ ?_
          rotate_left
          · intro w'
            go_simp
            with_reducible rfl
          rotate_left
          · simp only [Act.put, List.setIfInBounds_toArray, List.set_cons_zero, List.set_cons_succ]
            rfl
          refine pure_ (i := 69) (N := some 109) (v := ?_) (a' := ?_) (bs10 1180591620717411303423) rfl rfl (any_of HT_.out (by kernel_rfl)) (fun _ _ _ h => h) (Or.inl ⟨by rfl, ?_⟩) ?_ ?_
          rotate_left
          · intro w'
            go_simp
            with_reducible rfl
          rotate_left
          · simp only [Act.put, List.setIfInBounds_toArray, List.set_cons_zero, List.set_cons_succ]
            rfl
          refine take_ (i := 70) (N := some 110) (v := ?_) (a' := ?_) (bs10 2361183241434822606847) rfl rfl (take_ofW HT_.out HW_.out (by kernel_rfl)) (fun _ _ _ h => h) (Or.inl ⟨by rfl, ?_⟩) hHeld ?_ ?_
          rotate_left
          · rintro w' ⟨s0, s1, s2, s3, s4, s5, s6⟩
            go_simp
            with_reducible rfl
          rotate_left
          · simp only [Act.put, List.setIfInBounds_toArray, List.set_cons_zero, List.set_cons_succ]
            rfl
          refine pure_ (i := 71) (N := some 111) (v := ?_) (a' := ?_) (bs10 4722366482869645213695) rfl rfl (any_of HT_.out (by kernel_rfl)) (fun _ _ _ h => h) (Or.inl ⟨by rfl, ?_⟩) ?_ ?_
          rotate_left
          · intro w'
            go_simp
            with_reducible rfl
          rotate_left
          · simp only [Act.put, List.setIfInBounds_toArray, List.set_cons_zero, List.set_cons_succ]
            rfl
          refine pure_ (i := 72) (N := some 112) (v := ?_) (a' := ?_) (bs10 9444732965739290427391) rfl rfl (any_of HT_.out (by kernel_rfl)) (fun _ _ _ h => h) (Or.inl ⟨by rfl, ?_⟩) ?_ ?_
          rotate_left
          · intro w'
            go_simp
            with_reducible rfl
          rotate_left
          · simp only [Act.put, List.setIfInBounds_toArray, List.set_cons_zero, List.set_cons_succ]
            rfl
          refine pure_ (i := 73) (N := some 113) (v := ?_) (a' := ?_) (bs10 18889465931478580854783) rfl rfl (any_of HT_.out (by kernel_rfl)) (fun _ _ _ h => h) (Or.inl ⟨by rfl, ?_⟩) ?_ ?_
          rotate_left
          · intro w'
            go_simp
            with_reducible rfl
          rotate_left
          · simp only [Act.put, List.setIfInBounds_toArray, List.set_cons_zero, List.set_cons_succ]
            rfl
          refine pure_ (i := 74) (N := some 114) (v := ?_) (a' := ?_) (bs10 37778931862957161709567) rfl rfl (any_of HT_.out (by kernel_rfl)) (fun _ _ _ h => h) (Or.inl ⟨by rfl, ?_⟩) ?_ ?_
          rotate_left
          · intro w'
            go_simp
            with_reducible rfl
          rotate_left
          · simp only [Act.put, List.setIfInBounds_toArray, List.set_cons_zero, List.set_cons_succ]
            rfl
          refine pure_ (i := 75) (N := some 115) (v := ?_) (a' := ?_) (bs10 75557863725914323419135) rfl rfl (any_of HT_.out (by kernel_rfl)) (fun _ _ _ h => h) (Or.inl ⟨by rfl, ?_⟩) ?_ ?_
          rotate_left
          · intro w'
            go_simp
            with_reducible rfl
          rotate_left
          · simp only [Act.put, List.setIfInBounds_toArray, List.set_cons_zero, List.set_cons_succ]
            rfl
          refine pure_ (i := 76) (N := some 116) (v := ?_) (a' := ?_) (bs10 151115727451828646838271) rfl rfl (any_of HT_.out (by kernel_rfl)) (fun _ _ _ h => h) (Or.inl ⟨by rfl, ?_⟩) ?_ ?_
          rotate_left
          · intro w'
            go_simp
            with_reducible rfl
          rotate_left
          · simp only [Act.put, List.setIfInBounds_toArray, List.set_cons_zero, List.set_cons_succ]
            rfl
          refine pure_ (i := 77) (N := some 117) (v := ?_) (a' := ?_) (bs10 302231454903657293676543) rfl rfl (any_of HT_.out (by kernel_rfl)) (fun _ _ _ h => h) (Or.inl ⟨by rfl, ?_⟩) ?_ ?_
          rotate_left
          · intro w'
            go_simp
            with_reducible rfl
          rotate_left
          · simp only [Act.put, List.setIfInBounds_toArray, List.set_cons_zero, List.set_cons_succ]
            rfl
          refine pure_ (i := 78) (N := some 118) (v := ?_) (a' := ?_) (bs10 604462909807314587353087) rfl rfl (any_of HT_.out (by kernel_rfl)) (fun _ _ _ h => h) (Or.inl ⟨by rfl, ?_⟩) ?_ ?_
          rotate_left
          · intro w'
            go_simp
            with_reducible rfl
          rotate_left
          · simp only [Act.put, List.setIfInBounds_toArray, List.set_cons_zero, List.set_cons_succ]
            rfl
          refine pure_ (i := 79) (N := some 119) (v := undef) (a' := ?_) (bs10 1208925819614629174706175) rfl rfl (any_of HT_.out (by kernel_rfl)) (fun _ _ _ h => h) (Or.inr ⟨by rfl, rfl⟩) ?_ ?_
          rotate_left
          · simp only [Act.put, List.setIfInBounds_toArray, List.set_cons_zero, List.set_cons_succ]
            rfl
          refine pure_ (i := 80) (N := some 120) (v := undef) (a' := ?_) (bs10 2417851639229258349412351) rfl rfl (any_of HT_.out (by kernel_rfl)) (fun _ _ _ h => h) (Or.inr ⟨by rfl, rfl⟩) ?_ ?_
          rotate_left
          · simp only [Act.put, List.setIfInBounds_toArray, List.set_cons_zero, List.set_cons_succ]
            rfl
          refine pure_ (i := 81) (N := some 121) (v := undef) (a' := ?_) (bs10 4835703278458516698824703) rfl rfl (any_of HT_.out (by kernel_rfl)) (fun _ _ _ h => h) (Or.inr ⟨by rfl, rfl⟩) ?_ ?_
          rotate_left
          · simp only [Act.put, List.setIfInBounds_toArray, List.set_cons_zero, List.set_cons_succ]
            rfl
          refine pure_ (i := 82) (N := some 122) (v := undef) (a' := ?_) (bs10 9671406556917033397649407) rfl rfl (any_of HT_.out (by kernel_rfl)) (fun _ _ _ h => h) (Or.inr ⟨by rfl, rfl⟩) ?_ ?_
          rotate_left
          · simp only [Act.put, List.setIfInBounds_toArray, List.set_cons_zero, List.set_cons_succ]
            rfl
          refine pure_ (i := 83) (N := some 123) (v := undef) (a' := ?_) (bs10 19342813113834066795298815) rfl rfl (any_of HT_.out (by kernel_rfl)) (fun _ _ _ h => h) (Or.inr ⟨by rfl, rfl⟩) ?_ ?_
          rotate_left
          · simp only [Act.put, List.setIfInBounds_toArray, List.set_cons_zero, List.set_cons_succ]
            rfl
          refine pure_ (i := 84) (N := some 124) (v := undef) (a' := ?_) (bs10 38685626227668133590597631) rfl rfl (any_of HT_.out (by kernel_rfl)) (fun _ _ _ h => h) (Or.inr ⟨by rfl, rfl⟩) ?_ ?_
          rotate_left
          · simp only [Act.put, List.setIfInBounds_toArray, List.set_cons_zero, List.set_cons_succ]
            rfl
          refine pure_ (i := 85) (N := some 125) (v := undef) (a' := ?_) (bs10 77371252455336267181195263) rfl rfl (any_of HT_.out (by kernel_rfl)) (fun _ _ _ h => h) (Or.inr ⟨by rfl, rfl⟩) ?_ ?_
          rotate_left
          · simp only [Act.put, List.setIfInBounds_toArray, List.set_cons_zero, List.set_cons_succ]
            rfl
          refine pure_ (i := 86) (N := some 126) (v := undef) (a' := ?_) (bs10 154742504910672534362390527) rfl rfl (any_of HT_.out (by kernel_rfl)) (fun _ _ _ h => h) (Or.inr ⟨by rfl, rfl⟩) ?_ ?_
          rotate_left
          · simp only [Act.put, List.setIfInBounds_toArray, List.set_cons_zero, List.set_cons_succ]
            rfl
          refine pure_ (i := 87) (N := some 127) (v := undef) (a' := ?_) (bs10 309485009821345068724781055) rfl rfl (any_of HT_.out (by kernel_rfl)) (fun _ _ _ h => h) (Or.inr ⟨by rfl, rfl⟩) ?_ ?_
          rotate_left
          · simp only [Act.put, List.setIfInBounds_toArray, List.set_cons_zero, List.set_cons_succ]
            rfl
          refine pure_ (i := 88) (N := some 128) (v := undef) (a' := ?_) (bs10 618970019642690137449562111) rfl rfl (any_of HT_.out (by kernel_rfl)) (fun _ _ _ h => h) (Or.inr ⟨by rfl, rfl⟩) ?_ ?_
          rotate_left
          · simp only [Act.put, List.setIfInBounds_toArray, List.set_cons_zero, List.set_cons_succ]
            rfl
          refine pure_ (i := 89) (N := some 129) (v := ?_) (a' := ?_) (bs10 1237940039285380274899124223) rfl rfl (any_of HT_.out (by kernel_rfl)) (fun _ _ _ h => h) (Or.inl ⟨by rfl, ?_⟩) ?_ ?_
          rotate_left
          · intro w'
            go_simp
            with_reducible rfl
          rotate_left
          · simp only [Act.put, List.setIfInBounds_toArray, List.set_cons_zero, List.set_cons_succ]
            rfl
          refine pure_ (i := 90) (N := some 130) (v := ?_) (a' := ?_) (bs10 2475880078570760549798248447) rfl rfl (any_of HT_.out (by kernel_rfl)) (fun _ _ _ h => h) (Or.inl ⟨by rfl, ?_⟩) ?_ ?_
          rotate_left
          · intro w'
            go_simp
            with_reducible rfl
          rotate_left
          · simp only [Act.put, List.setIfInBounds_toArray, List.set_cons_zero, List.set_cons_succ]
            rfl
          refine done_ (done_of HT_.out (by kernel_rfl)) ?_
          have HTe := Aside0.mk (HT7.out.below HB15.out)
          go_wp2
          go_roundg (min n 120 - (i + 1))
          case measure => omega
          case rel => exact ⟨i + 1, F5, R5, q, congrArg (Value.int .i64) (by first | exact wrap_succ i (by omega) | omega), by omega, rfl, HTe, HG5, hpl5⟩
      · have hz2 : ¬ f3 ≥ 0 := hz
        obtain rfl := HOUT.out (fun h => hz h.1)
        refine pure_ (i := 63) (N := some 103) (v := ?_) (a' := ?_) (bs10 18446744073709551615) rfl rfl (any_of HT_.out (by kernel_rfl)) (fun _ _ _ h => h) (Or.inl ⟨by rfl, ?_⟩) ?_ ?_
        rotate_left
        · intro w'
          go_simp
          with_reducible rfl
        rotate_left
        · simp only [Act.put, List.setIfInBounds_toArray, List.set_cons_zero, List.set_cons_succ]
          rfl
        refine pure_ (i := 64) (N := some 104) (v := ?_) (a' := ?_) (bs10 36893488147419103231) rfl rfl (any_of HT_.out (by kernel_rfl)) (fun _ _ _ h => h) (Or.inl ⟨by rfl, ?_⟩) ?_ ?_
        rotate_left
        · intro w'
          go_simp
          with_reducible rfl
        rotate_left
        · simp only [Act.put, List.setIfInBounds_toArray, List.set_cons_zero, List.set_cons_succ]
          rfl
        refine pure_ (i := 65) (N := some 105) (v := undef) (a' := ?_) (bs10 73786976294838206463) rfl rfl (any_of HT_.out (by kernel_rfl)) (fun _ _ _ h => h) (Or.inr ⟨by rfl, rfl⟩) ?_ ?_
        rotate_left
        · simp only [Act.put, List.setIfInBounds_toArray, List.set_cons_zero, List.set_cons_succ]
          rfl
        refine pure_ (i := 66) (N := some 106) (v := undef) (a' := ?_) (bs10 147573952589676412927) rfl rfl (any_of HT_.out (by kernel_rfl)) (fun _ _ _ h => h) (Or.inr ⟨by rfl, rfl⟩) ?_ ?_
        rotate_left
        · simp only [Act.put, List.setIfInBounds_toArray, List.set_cons_zero, List.set_cons_succ]
          rfl
        refine pure_ (i := 67) (N := some 107) (v := undef) (a' := ?_) (bs10 295147905179352825855) rfl rfl (any_of HT_.out (by kernel_rfl)) (fun _ _ _ h => h) (Or.inr ⟨by rfl, rfl⟩) ?_ ?_
        rotate_left
        · simp only [Act.put, List.setIfInBounds_toArray, List.set_cons_zero, List.set_cons_succ]
          rfl
        refine pure_ (i := 68) (N := some 108) (v := undef) (a' := ?_) (bs10 590295810358705651711) rfl rfl (any_of HT_.out (by kernel_rfl)) (fun _ _ _ h => h) (Or.inr ⟨by rfl, rfl⟩) ?_ ?_
        rotate_left
        · simp only [Act.put, List.setIfInBounds_toArray, List.set_cons_zero, List.set_cons_succ]
          rfl
        refine pure_ (i := 69) (N := some 109) (v := undef) (a' := ?_) (bs10 1180591620717411303423) rfl rfl (any_of HT_.out (by kernel_rfl)) (fun _ _ _ h => h) (Or.inr ⟨by rfl, rfl⟩) ?_ ?_
        rotate_left
        · simp only [Act.put, List.setIfInBounds_toArray, List.set_cons_zero, List.set_cons_succ]
          rfl
        refine pure_ (i := 70) (N := some 110) (v := undef) (a' := ?_) (bs10 2361183241434822606847) rfl rfl (any_of HT_.out (by kernel_rfl)) (fun _ _ _ h => h) (Or.inr ⟨by rfl, rfl⟩) ?_ ?_
        rotate_left
        · simp only [Act.put, List.setIfInBounds_toArray, List.set_cons_zero, List.set_cons_succ]
          rfl
        refine pure_ (i := 71) (N := some 111) (v := undef) (a' := ?_) (bs10 4722366482869645213695) rfl rfl (any_of HT_.out (by kernel_rfl)) (fun _ _ _ h => h) (Or.inr ⟨by rfl, rfl⟩) ?_ ?_
        rotate_left
        · simp only [Act.put, List.setIfInBounds_toArray, List.set_cons_zero, List.set_cons_succ]
          rfl
        refine pure_ (i := 72) (N := some 112) (v := undef) (a' := ?_) (bs10 9444732965739290427391) rfl rfl (any_of HT_.out (by kernel_rfl)) (fun _ _ _ h => h) (Or.inr ⟨by rfl, rfl⟩) ?_ ?_
        rotate_left
        · simp only [Act.put, List.setIfInBounds_toArray, List.set_cons_zero, List.set_cons_succ]
          rfl
        refine pure_ (i := 73) (N := some 113) (v := ?_) (a' := ?_) (bs10 18889465931478580854783) rfl rfl (any_of HT_.out (by kernel_rfl)) (fun _ _ _ h => h) (Or.inl ⟨by rfl, ?_⟩) ?_ ?_
        rotate_left
        · intro w'
          go_simp
          with_reducible rfl
        rotate_left
        · simp only [Act.put, List.setIfInBounds_toArray, List.set_cons_zero, List.set_cons_succ]
          rfl
        refine pure_ (i := 74) (N := some 114) (v := ?_) (a' := ?_) (bs10 37778931862957161709567) rfl rfl (any_of HT_.out (by kernel_rfl)) (fun _ _ _ h => h) (Or.inl ⟨by rfl, ?_⟩) ?_ ?_
        rotate_left
        · intro w'
          go_simp
          with_reducible rfl
        rotate_left
        · simp only [Act.put, List.setIfInBounds_toArray, List.set_cons_zero, List.set_cons_succ]
          rfl
        refine pure_ (i := 75) (N := some 115) (v := ?_) (a' := ?_) (bs10 75557863725914323419135) rfl rfl (any_of HT_.out (by kernel_rfl)) (fun _ _ _ h => h) (Or.inl ⟨by rfl, ?_⟩) ?_ ?_
        rotate_left
        · intro w'
          go_simp
          with_reducible rfl
        rotate_left
        · simp only [Act.put, List.setIfInBounds_toArray, List.set_cons_zero, List.set_cons_succ]
          rfl
        refine pure_ (i := 76) (N := some 116) (v := ?_) (a' := ?_) (bs10 151115727451828646838271) rfl rfl (any_of HT_.out (by kernel_rfl)) (fun _ _ _ h => h) (Or.inl ⟨by rfl, ?_⟩) ?_ ?_
        rotate_left
        · intro w'
          go_simp
          with_reducible rfl
        rotate_left
        · simp only [Act.put, List.setIfInBounds_toArray, List.set_cons_zero, List.set_cons_succ]
          rfl
        refine pure_ (i := 77) (N := some 117) (v := ?_) (a' := ?_) (bs10 302231454903657293676543) rfl rfl (any_of HT_.out (by kernel_rfl)) (fun _ _ _ h => h) (Or.inl ⟨by rfl, ?_⟩) ?_ ?_
        rotate_left
        · intro w'
          go_simp
          with_reducible rfl
        rotate_left
        · simp only [Act.put, List.setIfInBounds_toArray, List.set_cons_zero, List.set_cons_succ]
          rfl
        refine pure_ (i := 78) (N := some 118) (v := ?_) (a' := ?_) (bs10 604462909807314587353087) rfl rfl (any_of HT_.out (by kernel_rfl)) (fun _ _ _ h => h) (Or.inl ⟨by rfl, ?_⟩) ?_ ?_
        rotate_left
        · intro w'
          go_simp
          with_reducible rfl
        rotate_left
        · simp only [Act.put, List.setIfInBounds_toArray, List.set_cons_zero, List.set_cons_succ]
          rfl
        refine pure_ (i := 79) (N := some 119) (v := undef) (a' := ?_) (bs10 1208925819614629174706175) rfl rfl (any_of HT_.out (by kernel_rfl)) (fun _ _ _ h => h) (Or.inr ⟨by rfl, rfl⟩) ?_ ?_
        rotate_left
        · simp only [Act.put, List.setIfInBounds_toArray, List.set_cons_zero, List.set_cons_succ]
          rfl
        refine pure_ (i := 80) (N := some 120) (v := undef) (a' := ?_) (bs10 2417851639229258349412351) rfl rfl (any_of HT_.out (by kernel_rfl)) (fun _ _ _ h => h) (Or.inr ⟨by rfl, rfl⟩) ?_ ?_
        rotate_left
        · simp only [Act.put, List.setIfInBounds_toArray, List.set_cons_zero, List.set_cons_succ]
          rfl
        refine pure_ (i := 81) (N := some 121) (v := undef) (a' := ?_) (bs10 4835703278458516698824703) rfl rfl (any_of HT_.out (by kernel_rfl)) (fun _ _ _ h => h) (Or.inr ⟨by rfl, rfl⟩) ?_ ?_
        rotate_left
        · simp only [Act.put, List.setIfInBounds_toArray, List.set_cons_zero, List.set_cons_succ]
          rfl
        refine pure_ (i := 82) (N := some 122) (v := undef) (a' := ?_) (bs10 9671406556917033397649407) rfl rfl (any_of HT_.out (by kernel_rfl)) (fun _ _ _ h => h) (Or.inr ⟨by rfl, rfl⟩) ?_ ?_
        rotate_left
        · simp only [Act.put, List.setIfInBounds_toArray, List.set_cons_zero, List.set_cons_succ]
          rfl
        refine pure_ (i := 83) (N := some 123) (v := undef) (a' := ?_) (bs10 19342813113834066795298815) rfl rfl (any_of HT_.out (by kernel_rfl)) (fun _ _ _ h => h) (Or.inr ⟨by rfl, rfl⟩) ?_ ?_
        rotate_left
        · simp only [Act.put, List.setIfInBounds_toArray, List.set_cons_zero, List.set_cons_succ]
          rfl
        refine pure_ (i := 84) (N := some 124) (v := undef) (a' := ?_) (bs10 38685626227668133590597631) rfl rfl (any_of HT_.out (by kernel_rfl)) (fun _ _ _ h => h) (Or.inr ⟨by rfl, rfl⟩) ?_ ?_
        rotate_left
        · simp only [Act.put, List.setIfInBounds_toArray, List.set_cons_zero, List.set_cons_succ]
          rfl
        refine pure_ (i := 85) (N := some 125) (v := undef) (a' := ?_) (bs10 77371252455336267181195263) rfl rfl (any_of HT_.out (by kernel_rfl)) (fun _ _ _ h => h) (Or.inr ⟨by rfl, rfl⟩) ?_ ?_
        rotate_left
        · simp only [Act.put, List.setIfInBounds_toArray, List.set_cons_zero, List.set_cons_succ]
          rfl
        refine pure_ (i := 86) (N := some 126) (v := undef) (a' := ?_) (bs10 154742504910672534362390527) rfl rfl (any_of HT_.out (by kernel_rfl)) (fun _ _ _ h => h) (Or.inr ⟨by rfl, rfl⟩) ?_ ?_
        rotate_left
        · simp only [Act.put, List.setIfInBounds_toArray, List.set_cons_zero, List.set_cons_succ]
          rfl
        refine pure_ (i := 87) (N := some 127) (v := undef) (a' := ?_) (bs10 309485009821345068724781055) rfl rfl (any_of HT_.out (by kernel_rfl)) (fun _ _ _ h => h) (Or.inr ⟨by rfl, rfl⟩) ?_ ?_
        rotate_left
        · simp only [Act.put, List.setIfInBounds_toArray, List.set_cons_zero, List.set_cons_succ]
          rfl
        refine pure_ (i := 88) (N := some 128) (v := undef) (a' := ?_) (bs10 618970019642690137449562111) rfl rfl (any_of HT_.out (by kernel_rfl)) (fun _ _ _ h => h) (Or.inr ⟨by rfl, rfl⟩) ?_ ?_
        rotate_left
        · simp only [Act.put, List.setIfInBounds_toArray, List.set_cons_zero, List.set_cons_succ]
          rfl
        refine pure_ (i := 89) (N := some 129) (v := ?_) (a' := ?_) (bs10 1237940039285380274899124223) rfl rfl (any_of HT_.out (by kernel_rfl)) (fun _ _ _ h => h) (Or.inl ⟨by rfl, ?_⟩) ?_ ?_
        rotate_left
        · intro w'
          go_simp
          with_reducible rfl
        rotate_left
        · simp only [Act.put, List.setIfInBounds_toArray, List.set_cons_zero, List.set_cons_succ]
          rfl
        refine pure_ (i := 90) (N := some 130) (v := ?_) (a' := ?_) (bs10 2475880078570760549798248447) rfl rfl (any_of HT_.out (by kernel_rfl)) (fun _ _ _ h => h) (Or.inl ⟨by rfl, ?_⟩) ?_ ?_
        rotate_left
        · intro w'
          go_simp
          with_reducible rfl
        rotate_left
        · simp only [Act.put, List.setIfInBounds_toArray, List.set_cons_zero, List.set_cons_succ]
          rfl
        refine done_ (done_of HT_.out (by kernel_rfl)) ?_
        have HTe := Aside0.mk (HT7.out.below HB15.out)
        go_wp2
        go_roundg (min n 120 - (i + 1))
        case measure => omega
        case rel => exact ⟨i + 1, F5, R5, q, congrArg (Value.int .i64) (by first | exact wrap_succ i (by omega) | omega), by omega, rfl, HTe, HG5, hpl5⟩
--ENDREGION10
    · have HE : Aside0 (Below w.heap.size w wr) := ⟨HB1.out.trans (HT.out.bl.mono hm1)⟩
      by_cases g1 : i < n
      · have g2 : (i : Int) < (n : Int) := by omega
        have g3 : ¬ (i : Int) < 120 := by omega
        go_wp2
        go_ret
        exact ⟨rfl, HE.out⟩
      · have g2 : ¬ (i : Int) < (n : Int) := by omega
        go_wp2
        go_ret
        exact ⟨rfl, HE.out⟩
end Go.Proofs.Ytnlbdmiflihghaa.P
