/- paliolaw17.shown answers true. Conditions: the variable errors.errorType is laid. -/
import Derived.Test.YtegmbgjolnbgpaaDoorCQ
namespace Go.Proofs.YtegmbgjolnbgpaaDoor.P
open Go.RowKit Go.Shelf Go.Proofs.YtegmbgjolnbgpaaDoorW.PrintWords Go.Proofs.YtegmbgjolnbgpaaDoorW.PrintLast Go.Proofs.YtegmbgjolnbgpaaDoorW.PrintMore
attribute [local go_sem] Oper.semAt_some
set_option linter.unusedSimpArgs false

theorem add_off (b n m : Nat) (h : n = m) : (⟨b, 0, none⟩ : Addr).add n = ⟨b, m, none⟩ := by
  subst h
  simp [Addr.add]
  try (intro h; exact h.symm)
theorem C_strs (w : World) (b : Nat) (l : List ByteArray) (cs : Array Value) (hB : Blk w b 9 cs) (hc : ∀ (j : Nat) s, l[j]? = some s → cs[j]? = some (.string s)) (hl : l.length ≤ 9223372036854775807) : Kd.C Kd.string w (some ⟨b, 0, none⟩) l.length l :=
  ⟨rfl, hl, fun _ => ⟨_, rfl, fun j p hj => ⟨[.string p], rfl, rfl, fun i u hu => by
    match i with
    | 0 =>
      simp at hu
      subst hu
      rw [show (⟨b, 0, none⟩ : Addr).add (j * Kd.string.sz + 0) = ⟨b, j, none⟩ from add_off b _ j (by rw [show Kd.string.sz = 1 from rfl]; omega), hB.cell]
      exact hc j p hj
    | i + 1 => simp at hu⟩⟩⟩
theorem C_ents (w : World) (b : Nat) (l : List S43) (cs : Array Value) (hB : Blk w b 43 cs) (hc : ∀ (j : Nat) s, l[j]? = some s → cs[2 * j]? = some (.string s.f0) ∧ cs[2 * j + 1]? = some (.int .i64 s.f1)) (hl : l.length ≤ 9223372036854775807) : Kd.C k43 w (some ⟨b, 0, none⟩) l.length l :=
  ⟨rfl, hl, fun _ => ⟨_, rfl, fun j p hj => ⟨[.string p.f0, .int .i64 p.f1], rfl, ⟨[.string p.f0], [.int .i64 p.f1], rfl, rfl, rfl⟩, fun i u hu => by
    obtain ⟨h0, h1⟩ := hc j p hj
    match i with
    | 0 =>
      simp at hu
      subst hu
      rw [show (⟨b, 0, none⟩ : Addr).add (j * k43.sz + 0) = ⟨b, 2 * j, none⟩ from add_off b _ _ (by rw [show k43.sz = 2 from rfl]; omega), hB.cell]
      exact h0
    | 1 =>
      simp at hu
      subst hu
      rw [show (⟨b, 0, none⟩ : Addr).add (j * k43.sz + 1) = ⟨b, 2 * j + 1, none⟩ from add_off b _ _ (by rw [show k43.sz = 2 from rfl]; omega), hB.cell]
      exact h1
    | i + 2 => simp at hu⟩⟩⟩
def sh1 : List ByteArray := [⟨#[122, 97, 100, 100]⟩, ⟨#[107]⟩, ⟨#[110, 120]⟩, ⟨#[53]⟩, ⟨#[97]⟩]
def sh2 : List ByteArray := [⟨#[122, 97, 100, 100]⟩, ⟨#[107]⟩, ⟨#[53]⟩]
def sh3 : List ByteArray := [⟨#[102, 111, 111]⟩]
def shC : Cm := { zCm with name := ⟨#[90, 65, 68, 68]⟩, keys := [⟨#[107]⟩], fl := ⟨true, false, false, false, false, false⟩, ents := [⟨⟨#[97]⟩, 5⟩] }
theorem sh1_p : parseP sh1 = (shC, 0) := by kernel_rfl
theorem sh2_p : parseP sh2 = (zCm, 171) := by kernel_rfl
theorem sh3_p : parseP sh3 = (zCm, 170) := by kernel_rfl
theorem row_sh (w : World) (l : List ByteArray) (hl : l.length ≤ 9223372036854775807) : Kd.C Kd.string (w.alloc (.cells (l.map Value.string).toArray 9)) (some ⟨w.heap.size, 0, none⟩) l.length l :=
  C_strs _ _ l _ (Blk.new w _ _) (fun j s hj => by simp [hj]) hl
theorem calls_at {P : Program} {f : FuncId} {args : Array Value} {W W' : World} {R : Ending → World → Prop} (h : W = W') (k : Calls P f args W' R) : Calls P f args W R := h ▸ k
/-- A list of texts that the law makes, and what Parse says of it. -/
theorem parse_row (w : World) (l : List ByteArray) (hl : l.length ≤ 400) (hL : ∀ x ∈ l, x.size ≤ 1000) (hg : Gl w) : Calls Tryd.prog 9 #[.slice (some ⟨w.heap.size, 0, none⟩) l.length l.length] (w.alloc (.cells (l.map Value.string).toArray 9)) fun e w' =>
    Below w.heap.size w w' ∧ ∃ vk ve vw, e = .returned (.tuple #[.agg (cmCells (parseP l).1 vk ve vw), .int .i64 (parseP l).2]) ∧ RdC w' (parseP l).1 vk ve vw := by
  refine (Parse_calls _ l.length _ l hL hl (Nat.le_refl _) (row_sh w l (by omega)) (hg.below (below_box w _))).mono ?_
  rintro e w' ⟨h1, vk, ve, vw, rfl, h2, h3, h4⟩
  exact ⟨(below_box w _).trans (h1.mono (below_box w (.cells (l.map Value.string).toArray 9)).size), vk, ve, vw, rfl, RdC.of h2 h3 h4⟩
theorem RdC.slices {w : World} {c : Cm} {vk ve vw : Value} (h : RdC w c vk ve vw) : (cmCells c vk ve vw).all (·.oneCell') = true := by
  obtain ⟨⟨_, _, rfl, _⟩, ⟨_, _, rfl, _⟩, ⟨_, _, rfl, _⟩⟩ := h
  exact one_cm _ _ _ _ _ _ _ _ _ _
theorem shC_laid (w : World) (a b : Nat) (ha : Blk w a 9 #[.string ⟨#[107]⟩]) (hb : Blk w b 43 #[.string ⟨#[97]⟩, .int .i64 5]) : RdC w shC (.slice (some ⟨a, 0, none⟩) 1 1) (.slice (some ⟨b, 0, none⟩) 1 1) nilS :=
  ⟨⟨_, _, rfl, Nat.le_refl _, C_strs w a shC.keys _ ha (fun j s hj => by match j with | 0 => (cases hj; rfl) | j + 1 => cases hj) (by decide)⟩,
   ⟨_, _, rfl, Nat.le_refl _, C_ents w b shC.ents _ hb (fun j s hj => by match j with | 0 => (cases hj; exact ⟨rfl, rfl⟩) | j + 1 => cases hj) (by decide)⟩,
   ⟨_, _, rfl, Nat.le_refl _, Kd.C_nil _ _⟩⟩
theorem wpList_load_g {P : Program} {W : World} {B : Nat} {T : TypeId} {ops : Array Oper} {rest : List Oper} {o : Oper} {a : Act} {Q : Exit → Act → World → Prop} (ty : TypeId) (x : Operand) (ho : o.op = .load ty x) {cs : Array Value} (h : Blk W B T cs) (hx : a.eval x = .pointer (some ⟨B, 0, none⟩)) (d : TypeDesc) (hu : P.underlying ty = some d) (hd : d.isRow = true) (hi : (P.info? ty).map (·.size) = some cs.size)
    (hw : Region.wanted o (yielded ops a.tmps) = true) (hK : wpList P ops Q rest (a.put o.dst (.agg cs)) W) : wpList P ops Q (o :: rest) a W := by
  unfold wpList
  rw [if_pos hw]
  refine .inl ?_
  have := wp_load_mid (P := P) (op := o) (a := a) (w := W) (K := wpList P ops Q rest) (Q := Q) ty x ho B 0 hx cs.toList d (h.range 0 _ (fun j v hv => by rw [Nat.zero_add]; simpa using hv)) hu hd (by simpa using hi)
  simp only [Array.toArray_toList] at this
  exact this hK
theorem b_store {w2 w3 : World} {o : Obj} (g : (w2.alloc o).grownBy w3 (some w2.heap.size)) : Below w2.heap.size w2 w3 := (below_box w2 o).grown g (by simp) (fun k e => by cases e; exact Nat.le_refl _)
set_option maxHeartbeats 16000000 in
set_option maxRecDepth 100000 in
theorem shown_calls (w : World) (hg : Gl w) : Calls Tryd.prog 7 #[] w fun e w' => e = .returned (.bool true) ∧ Below w.heap.size w w' := by
  have HG := Lib.hid hg
  have HC1 := Lib.hid (parse_row w sh1 (by decide) (by decide) hg)
  rw [sh1_p] at HC1
  clear hg
  go_enter Tryd.func7, Tryd.ntmps7
  go_wp2_with fail
  refine HC1.out.mono ?_
  rintro e w2 ⟨b2, vk, ve, vw, rfl, r2⟩
  have HR := Lib.hid r2
  have HB := Lib.hid b2
  have HS := Lib.hid r2.slices
  clear b2 r2 HC1
  go_wp2_with (refine wpList_stblk 35 (.tmp 1) (.tmp 10) rfl rfl (Blk.new w2 _ _) (cmCells shC vk ve vw) rfl rfl rfl infoCmd HS.out ?_; intro w3 B3 g3 hq; clear hq; have HB3 := Lib.hid B3; have HG3 := Lib.hid g3; clear B3 g3)
  have q3 := b_store HG3.out
  have HR := Lib.hid (HR.out.below q3)
  have HB := Lib.hid (HB.out.trans (q3.mono HB.out.size))
  clear HG3 q3 HS
  have HC2 := Lib.hid (parse_row w3 sh2 (by decide) (by decide) (HG.out.below HB.out))
  rw [sh2_p] at HC2
  refine HC2.out.mono ?_
  rintro e w4 ⟨b4, uk, ue, uw, rfl, r4⟩
  have HB3 := Lib.hid (HB3.out.below b4)
  have HR := Lib.hid (HR.out.below b4)
  have HB := Lib.hid (HB.out.trans (b4.mono HB.out.size))
  have HS := Lib.hid r4.slices
  clear b4 r4 HC2
  generalize w2.heap.size = b3 at HB3 ⊢
  go_wp2_with (refine wpList_stblk 35 (.tmp 3) (.tmp 15) rfl rfl (Blk.new w4 _ _) (cmCells zCm uk ue uw) rfl rfl rfl infoCmd HS.out ?_; intro w5 B5 g5 hq; clear hq; have HG5 := Lib.hid g5; clear B5 g5)
  have q5 := b_store HG5.out
  have HB3 := Lib.hid (HB3.out.below q5)
  have HR := Lib.hid (HR.out.below q5)
  have HB := Lib.hid (HB.out.trans (q5.mono HB.out.size))
  clear HG5 q5 HS
  have HC3 := Lib.hid (parse_row w5 sh3 (by decide) (by decide) (HG.out.below HB.out))
  rw [sh3_p] at HC3
  refine HC3.out.mono ?_
  rintro e w6 ⟨b6, uk3, ue3, uw3, rfl, r6⟩
  have HB3 := Lib.hid (HB3.out.below b6)
  have HR := Lib.hid (HR.out.below b6)
  have HB := Lib.hid (HB.out.trans (b6.mono HB.out.size))
  have HS := Lib.hid r6.slices
  clear b6 r6 HC3
  go_upto_region 4 with (refine wpList_stblk 35 (.tmp 5) (.tmp 20) rfl rfl (Blk.new w6 _ _) (cmCells zCm uk3 ue3 uw3) rfl rfl rfl infoCmd HS.out ?_; intro w7 B7 g7 hq; clear hq; have HG7 := Lib.hid g7; clear B7 g7)
  have q7 := b_store HG7.out
  have B7 := HB3.out.below q7
  have HR := Lib.hid (HR.out.below q7)
  have HB := Lib.hid (HB.out.trans (q7.mono HB.out.size))
  clear HG7 q7 HS HB3
  have B7 := Lib.hid B7
  go_wp2_with (refine wpList_load_g 35 (.tmp 1) rfl B7.out rfl _ Tryd.underlying35 rfl infoCmd (by rfl) ?_)
  obtain ⟨w8, hw8, B8, b8⟩ : ∃ w8, w7.alloc (.cells #[.string ⟨#[107]⟩] 9) = w8 ∧ Blk w8 w7.heap.size 9 #[.string ⟨#[107]⟩] ∧ Below w7.heap.size w7 w8 := ⟨_, rfl, Blk.new w7 _ _, below_box w7 _⟩
  obtain ⟨w9, hw9, B9, b9⟩ : ∃ w9, w8.alloc (.cells #[.string ⟨#[97]⟩, .int .i64 5] 43) = w9 ∧ Blk w9 w8.heap.size 43 #[.string ⟨#[97]⟩, .int .i64 5] ∧ Below w8.heap.size w8 w9 := ⟨_, rfl, Blk.new w8 _ _, below_box w8 _⟩
  have hz : w8.heap.size = w7.heap.size + 1 := by rw [← hw8]; simp
  have r9 := shC_laid w9 _ _ (B8.below b9) B9
  rw [hz] at r9
  have b79 := b8.trans (b9.mono b8.size)
  refine calls_at (show _ = w9 from by rw [← hw9, ← hw8]) ?_
  refine (Same_calls shC w9 vk ve vw _ _ _ (HR.out.below b79) r9).mono ?_
  rintro e w10 ⟨rfl, b10⟩
  have HB := Lib.hid ((HB.out.trans (b79.mono HB.out.size)).trans (b10.mono (Nat.le_trans HB.out.size b79.size)))
  clear hw8 hw9 B8 B9 b8 b9 hz r9 b79 b10 HR B7
  go_wp2
  go_ret
  exact ⟨rfl, HB.out⟩
end Go.Proofs.YtegmbgjolnbgpaaDoor.P
