/- paliolaw17.Few in plain words; paliolaw17.CommandOwn. Conditions: each theorem names its own. -/
import Derived.Test.YtegmbgjolnbgpaaDoorCR
import Derived.Test.YtegmbgjolnbgpaaDoorPx2
namespace Go.Proofs.YtegmbgjolnbgpaaDoor.P
open Go.RowKit Go.Shelf Go.Proofs.YtegmbgjolnbgpaaDoorW.PrintWords Go.Proofs.YtegmbgjolnbgpaaDoorW.PrintLast Go.Proofs.YtegmbgjolnbgpaaDoorW.PrintMore
attribute [local go_sem] Oper.semAt_some
set_option linter.unusedSimpArgs false

def cutT (s : ByteArray) : ByteArray := s.extract 0 (mn (s.size : Int) 70).toNat
/-- The first sixty-six texts, of at most seventy bytes. -/
def fewS (l : List ByteArray) : List ByteArray := (l.take 66).map cutT
theorem fewS_len (l : List ByteArray) : (fewS l).length ≤ 66 := by unfold fewS; rw [List.length_map, List.length_take]; omega
theorem mn_le (a b : Int) : mn a b ≤ b ∧ mn a b ≤ a ∧ (0 ≤ a → 0 ≤ b → 0 ≤ mn a b) := by
  unfold mn
  split <;> omega
theorem cutT_size (s : ByteArray) : (cutT s).size ≤ 70 := by
  unfold cutT
  have h := (mn_le (s.size : Int) 70).1
  rw [ByteArray.size_extract]
  omega
theorem fewS_size (l : List ByteArray) : ∀ x ∈ fewS l, x.size ≤ 70 := by
  intro x hx
  obtain ⟨y, _, rfl⟩ := List.mem_map.1 hx
  exact cutT_size y
theorem few_l0 (l : List ByteArray) : ∀ (m i : Nat), i + m = (l.take 66).length → paliolaw17_Few.l0 (m + 1) l (((l.take 66).take i).map cutT) (i : Int) = some (fewS l)
  | 0, i, h => by
    rw [List.length_take] at h
    have he : ((l.take 66).take i).map cutT = fewS l := by unfold fewS; rw [List.take_of_length_le (by rw [List.length_take]; omega)]
    rw [paliolaw17_Few.l0]
    by_cases h1 : (i : Int) < (l.length : Int)
    · rw [if_pos h1, if_neg (by omega), he]
    · rw [if_neg h1, he]
  | m + 1, i, h => by
    have h' := h
    rw [List.length_take] at h
    have hi : i < (l.take 66).length := by rw [List.length_take]; omega
    have hil : i < l.length := by omega
    have hr : rdOf ByteArray.empty l (i : Int) = l[i] := by
      rw [rdOf, Int.toNat_natCast, List.getD_eq_getElem?_getD, List.getElem?_eq_getElem hil]
      rfl
    have hlen : (((l.take 66).take i).map cutT).length = i := by rw [List.length_map, List.length_take]; omega
    have hmn := mn_le (l[i].size : Int) 70
    have hw : wrap64 ((i : Int) + 1) = ((i + 1 : Nat) : Int) := by unfold wrap64; omega
    have hnext : ((l.take 66).take i).map cutT ++ [cutT l[i]] = ((l.take 66).take (i + 1)).map cutT := by
      rw [← List.take_append_getElem hi, List.map_append, List.getElem_take]
      rfl
    rw [paliolaw17_Few.l0, if_pos (by omega), if_pos (by omega), if_pos (by omega), hr, if_pos (hmn.2.2 (by omega) (by omega)), if_pos hmn.2.1, if_pos (by rw [hlen]; omega), hw]
    show paliolaw17_Few.l0 (m + 1) l (((l.take 66).take i).map cutT ++ [cutT l[i]]) _ = _
    rw [hnext]
    exact few_l0 l m (i + 1) (by omega)
theorem few_ref (l : List ByteArray) : paliolaw17_Few.f ((l.take 66).length + 1) l = some (fewS l) := few_l0 l _ 0 (by omega)
theorem RK.far {w w' : World} {m : Nat} {v : Value} {l : List ByteArray} (h : RK w m v l) (hm : ∀ k, m ≤ k → k < w.heap.size → w'.heap[k]? = w.heap[k]?) : RK w' m v l := Kd.R_mono (Kd.R_move (Kd.R_bound h) (fun k hk => hm k hk.2.1 hk.2.2.1)) (fun _ hk => hk.1)
theorem RE.far {w w' : World} {m : Nat} {v : Value} {l : List S43} (h : RE w m v l) (hm : ∀ k, m ≤ k → k < w.heap.size → w'.heap[k]? = w.heap[k]?) : RE w' m v l := Kd.R_mono (Kd.R_move (Kd.R_bound h) (fun k hk => hm k hk.2.1 hk.2.2.1)) (fun _ hk => hk.1)
theorem RW.far {w w' : World} {m : Nat} {v : Value} {l : List Int} (h : RW w m v l) (hm : ∀ k, m ≤ k → k < w.heap.size → w'.heap[k]? = w.heap[k]?) : RW w' m v l := Kd.R_mono (Kd.R_move (Kd.R_bound h) (fun k hk => hm k hk.2.1 hk.2.2.1)) (fun _ hk => hk.1)
/-- A command that was made from a place on: its rows. -/
structure RowsC (w : World) (m : Nat) (c : Cm) (vk ve vw : Value) : Prop where
  k : RK w m vk c.keys
  e : RE w m ve c.ents
  w : RW w m vw c.ws
theorem RowsC.far {w w' : World} {m : Nat} {c : Cm} {vk ve vw : Value} (h : RowsC w m c vk ve vw) (hm : ∀ k, m ≤ k → k < w.heap.size → w'.heap[k]? = w.heap[k]?) : RowsC w' m c vk ve vw := ⟨h.k.far hm, h.e.far hm, h.w.far hm⟩
theorem RowsC.below {w w' : World} {m : Nat} {c : Cm} {vk ve vw : Value} (h : RowsC w m c vk ve vw) (hb : Below w.heap.size w w') : RowsC w' m c vk ve vw := h.far (fun k _ hk => hb.block k hk)
theorem RowsC.rd {w : World} {m : Nat} {c : Cm} {vk ve vw : Value} (h : RowsC w m c vk ve vw) : RdC w c vk ve vw := RdC.of h.k h.e h.w
/-- Two answers that were laid, and the list they were read from. -/
structure OwnS (w1 : World) (m : Nat) (A2 : Option Addr) (n : Nat) (b3 b4 : Nat) (c : Cm) (vk ve vw uk ue uw : Value) (W : World) : Prop where
  bel : Below w1.heap.size w1 W
  B3 : Blk W b3 35 (cmCells c vk ve vw)
  B4 : Blk W b4 35 (cmCells c uk ue uw)
  K1 : RowsC W m c vk ve vw
  K2 : RowsC W m c uk ue uw
  l3 : m ≤ b3
  l4 : m ≤ b4
  row : 0 < n → ∃ g cs, A2 = some ⟨g, 0, none⟩ ∧ Blk W g 9 cs ∧ n ≤ cs.size ∧ w1.heap.size ≤ g ∧ g < m
theorem OwnS.set {w1 : World} {m : Nat} {g : Nat} {n : Nat} {b3 b4 : Nat} {c : Cm} {vk ve vw uk ue uw : Value} {W : World} (h : OwnS w1 m (some ⟨g, 0, none⟩) n b3 b4 c vk ve vw uk ue uw W) {cs : Array Value} (hB : Blk W g 9 cs) (hn : n ≤ cs.size) (h1 : w1.heap.size ≤ g) (h2 : g < m) (j : Nat) (v : Value) :
    OwnS w1 m (some ⟨g, 0, none⟩) n b3 b4 c vk ve vw uk ue uw (W.setCell ⟨g, j, none⟩ v) where
  bel := h.bel.setCell (p := ⟨g, j, none⟩) h1 v
  B3 := h.B3.other (by have := h.l3; omega) j v
  B4 := h.B4.other (by have := h.l4; omega) j v
  K1 := h.K1.far (fun k hk _ => Below.heap_setCell W ⟨g, j, none⟩ v k (by show k ≠ g; omega))
  K2 := h.K2.far (fun k hk _ => Below.heap_setCell W ⟨g, j, none⟩ v k (by show k ≠ g; omega))
  l3 := h.l3
  l4 := h.l4
  row := fun _ => ⟨g, _, rfl, hB.set j v, by simpa using hn, h1, h2⟩
theorem parse_again (w : World) (m : Nat) (hm : m ≤ w.heap.size) (L : List ByteArray) (A : Option Addr) (n : Nat) (hL : ∀ x ∈ L, x.size ≤ 70) (hl : L.length ≤ 66) (hn : L.length ≤ n) (hC : Kd.C Kd.string w A L.length L) (hg : Gl w) :
    Calls Tryd.prog 9 #[.slice A L.length n] w fun e w' => Below w.heap.size w w' ∧ ∃ vk ve vw, e = .returned (.tuple #[.agg (cmCells (parseP L).1 vk ve vw), .int .i64 (parseP L).2]) ∧ RowsC w' m (parseP L).1 vk ve vw := by
  refine (Parse_calls w n A L (fun x hx => Nat.le_trans (hL x hx) (by decide)) (by omega) hn hC hg).mono ?_
  rintro e w' ⟨h1, vk, ve, vw, rfl, h2, h3, h4⟩
  exact ⟨h1, vk, ve, vw, rfl, Kd.R_lower h2 hm, Kd.R_lower h3 hm, Kd.R_lower h4 hm⟩
set_option maxHeartbeats 16000000 in
set_option maxRecDepth 100000 in
theorem Own_calls (l : List ByteArray) (A : Option Addr) (cc : Nat) (w : World) (hg : Gl w) (hC : Kd.C Kd.string w A l.length l) (hcc : l.length ≤ cc) : Calls Tryd.prog 3 #[.slice A l.length cc] w fun e w' => e = .returned (.bool true) ∧ Below w.heap.size w w' := by
  have HS := Lib.hid (shown_calls w hg)
  have HG := Lib.hid hg
  have HC := Lib.hid hC
  have HL := Lib.hid (And.intro (fewS_len l) (fewS_size l))
  have HF := Lib.hid (few_ref l)
  clear hC hg
  go_enter Tryd.func3, Tryd.ntmps3
  go_wp2_with fail
  refine HS.out.mono ?_
  rintro e w1 ⟨rfl, b1⟩
  have HG := Lib.hid (HG.out.below b1)
  have HC := Lib.hid (Kd.C_below HC.out b1)
  have HB1 := Lib.hid b1
  clear HS b1
  go_wp2_with fail
  refine (paliolaw17_Few.calls _ A cc l (fewS l) w1 HC.out hcc HF.out).mono ?_
  rintro e w2 ⟨v0, rfl, hR, b2⟩
  generalize fewS l = L at hR HL
  obtain ⟨A2, c2, rfl, hl2, hC2⟩ := Kd.R_reads hR
  obtain ⟨inner, hlen, hown⟩ := Kd.R_own hR
  have hrow : 0 < L.length → ∃ g cs, A2 = some ⟨g, 0, none⟩ ∧ Blk w2 g 9 cs ∧ L.length ≤ cs.size ∧ w1.heap.size ≤ g ∧ g < w2.heap.size := by
    intro hp
    rcases hown with ⟨he, h0⟩ | ⟨g, cap, cur, he, hge, hb, hle, _, hsz, _⟩
    · omega
    · injection he with e1 e2 e3
      exact ⟨g, cur, e1, hb, by rw [hsz]; show _ ≤ cap * 1; omega, hge, Blk.lt hb⟩
  have HR := Lib.hid hrow
  have HC := Lib.hid hC2
  have HL2 := Lib.hid hl2
  have HG := Lib.hid (HG.out.below b2)
  have HB := Lib.hid b2
  clear hR hlen hown hrow hC2 hl2 b2 hcc HF
  go_wp2_with fail
  refine (parse_again w2 w2.heap.size (Nat.le_refl _) L A2 c2 HL.out.2 HL.out.1 HL2.out HC.out HG.out).mono ?_
  rintro e w3 ⟨b3, vk, ve, vw, rfl, r3⟩
  generalize hp : parseP L = pp at r3
  have HP := Lib.hid hp
  obtain ⟨c, er⟩ := pp
  have HO := Lib.hid r3.rd.slices
  have HR3 := Lib.hid r3
  have HB3 := Lib.hid b3
  clear r3 b3 hp
  simp only
  go_wp2_with (refine wpList_stblk 35 (.tmp 4) (.tmp 15) rfl rfl (Blk.new w3 _ _) (cmCells c vk ve vw) rfl rfl rfl infoCmd HO.out ?_; intro w4 B4 g4 hq; clear hq; have HB4 := Lib.hid B4; have HG4 := Lib.hid g4; clear B4 g4)
  have q4 := b_store HG4.out
  have h24 := HB3.out.trans (q4.mono HB3.out.size)
  have HR3 := Lib.hid (HR3.out.below q4)
  have l3 : w2.heap.size ≤ w3.heap.size := HB3.out.size
  generalize w3.heap.size = b3 at HB4 l3 ⊢
  clear HG4 q4 HO HB3
  have HG := Lib.hid (HG.out.below h24)
  have HC := Lib.hid (Kd.C_below HC.out h24)
  have H24 := Lib.hid h24
  clear h24
  refine (parse_again w4 w2.heap.size H24.out.size L A2 c2 HL.out.2 HL.out.1 HL2.out HC.out HG.out).mono ?_
  rw [HP.out]
  rintro e w5 ⟨b5, uk, ue, uw, rfl, r5⟩
  have HO := Lib.hid r5.rd.slices
  have HR5 := Lib.hid r5
  have HB4 := Lib.hid (HB4.out.below b5)
  have HR3 := Lib.hid (HR3.out.below b5)
  have H25 := Lib.hid (H24.out.trans (b5.mono H24.out.size))
  clear r5 b5 H24
  simp only
  go_wp2_with (refine wpList_stblk 35 (.tmp 6) (.tmp 20) rfl rfl (Blk.new w5 _ _) (cmCells c uk ue uw) rfl rfl rfl infoCmd HO.out ?_; intro w6 B6 g6 hq; clear hq; have HB6 := Lib.hid B6; have HG6 := Lib.hid g6; clear B6 g6)
  have q6 := b_store HG6.out
  have h26 := H25.out.trans (q6.mono H25.out.size)
  have hS : OwnS w1 w2.heap.size A2 L.length b3 w5.heap.size c vk ve vw uk ue uw w6 := ⟨HB.out.trans (h26.mono HB.out.size), HB4.out.below q6, HB6.out, HR3.out.below q6, HR5.out.below q6, l3, H25.out.size, fun hp => by
    obtain ⟨g, cs, e, hB, hs, h1, h2⟩ := HR.out hp
    exact ⟨g, cs, e, hB.below h26, hs, h1, h2⟩⟩
  have HSS := Aside0.mk hS
  generalize w5.heap.size = b5 at HSS ⊢
  generalize w2.heap.size = m at HSS
  clear HG6 q6 HO h26 hS HB4 HB6 HR3 HR5 H25 HR HB HC HL2 HP l3
  have hLn : (L.length : Int) < 1000 := by have := HL.out.1; omega
  go_loopg [8] L.length (fun gg v8 wr => ∃ (j : Nat), v8 = .int .i64 j ∧ j ≤ L.length ∧ L.length - j ≤ gg ∧ Aside0 (OwnS w1 m A2 L.length b3 b5 c vk ve vw uk ue uw wr))
  case atStart => exact ⟨0, rfl, Nat.zero_le _, by omega, HSS⟩
  case round =>
    clear HSS
    obtain ⟨j, rfl, hj, hgg, HSr⟩ := hrel
    by_cases hlt : j < L.length
    · obtain ⟨g, cs, rfl, hB, hs, h1, h2⟩ := HSr.out.row (by omega)
      have hcell : wr.cell? ⟨g, j, none⟩ = some (cs[j]'(by omega)) := by rw [hB.cell]; simp
      have hfz := hB.frozen j
      have HN := Aside0.mk (HSr.out.set hB hs h1 h2 j (.string ⟨#[111, 116, 104, 101, 114]⟩))
      clear HSr hB
      have hji : (j : Int) < (L.length : Int) := by omega
      have hj0 : (j : Int) < 1000 := by omega
      go_wp2
      go_roundg (L.length - (j + 1))
      case measure => omega
      case rel => exact ⟨j + 1, by go_num, by omega, by omega, HN⟩
    · obtain rfl : j = L.length := by omega
      go_wp2_with (first
        | (refine wpList_load_g 35 (.tmp 4) rfl HSr.out.B3 rfl _ Tryd.underlying35 rfl infoCmd (by rfl) ?_)
        | (refine wpList_load_g 35 (.tmp 6) rfl HSr.out.B4 rfl _ Tryd.underlying35 rfl infoCmd (by rfl) ?_))
      refine (Same_calls c wr vk ve vw uk ue uw HSr.out.K1.rd HSr.out.K2.rd).mono ?_
      rintro e w8 ⟨rfl, b8⟩
      have HZ := Lib.hid ((HB1.out.trans (HSr.out.bel.mono HB1.out.size)).trans (b8.mono (Nat.le_trans HB1.out.size HSr.out.bel.size)))
      clear b8
      go_wp2
      go_ret
      exact ⟨rfl, HZ.out⟩
end Go.Proofs.YtegmbgjolnbgpaaDoor.P
