/- Known, IsWrite; a block stored and loaded whole; whichever function of the table reads a command. Conditions: each theorem names its own. -/
import Derived.Test.YtegmbgjolnbgpaaDoorCK
import Derived.Test.YtegmbgjolnbgpaaDoorCL
import Derived.Deep.MidRow
import Derived.Test.YtegmbgjolnbgpaaDoorTO
namespace Go.Proofs.YtegmbgjolnbgpaaDoor.P
open Go.RowKit Go.Shelf Go.Proofs.YtegmbgjolnbgpaaDoorW.PrintWords Go.Proofs.YtegmbgjolnbgpaaDoorW.PrintLast Go.Proofs.YtegmbgjolnbgpaaDoorW.PrintMore
attribute [local go_sem] Oper.semAt_some
set_option linter.unusedSimpArgs false

def upS (s : ByteArray) : ByteArray := ⟨(up s).toArray⟩
theorem upFrom_len (s : ByteArray) : ∀ f pos, (upFrom s f pos).length ≤ f
  | 0, _ => Nat.le_refl _
  | f + 1, pos => by
    rw [upFrom]
    split
    · have h1 : (upOne s pos).length = 1 := by unfold upOne; split <;> rfl
      have := upFrom_len s f (pos + (Utf8.decode s pos).2)
      rw [List.length_append]
      omega
    · exact Nat.zero_le _
theorem upS_size (s : ByteArray) : (upS s).size ≤ s.size := by
  have := upFrom_len s s.size 0
  show (up s).toArray.size ≤ _
  rw [List.size_toArray]
  exact this
theorem OwnsN.above {W W' : World} {bm : Nat} (h : OwnsN W bm) (hb : Below W.heap.size W W') : OwnsN W' bm := h.below hb
theorem below_map {w : World} : Below w.heap.size w (w.alloc (.map #[] 0)) := (Below.refl _ _).alloc (Nat.le_refl _) _
set_option maxHeartbeats 4000000 in
set_option maxRecDepth 100000 in
theorem Known_calls (s : ByteArray) (hs : s.size ≤ 1000) (w : World) : Calls Tryd.prog 13 #[.string s] w fun e w' => e = .returned (.bool (lookN (upS s)).isSome) ∧ Below w.heap.size w w' := by
  have hz : (upS s).size ≤ maxLen := Nat.le_trans (Nat.le_trans (upS_size s) hs) (by decide)
  have hu : upS s = ⟨(up s).toArray⟩ := rfl
  generalize upS s = U at hz hu ⊢
  have HU := Lib.hid hu
  have hv : ∃ i j y x3, nmVal U = .agg #[.int .i64 i, .int .i64 j, .bool y, x3] ∧ (x3 = .nilFunc ∨ ∃ f, x3 = .func (.func f) #[] #[]) := by
    unfold nmVal
    cases lookN U with
    | some x => exact ⟨_, _, _, _, rfl, .inr ⟨_, rfl⟩⟩
    | none => exact ⟨_, _, _, _, rfl, .inl rfl⟩
  obtain ⟨i, j, y, x3, hv, h3⟩ := hv
  clear hu
  have hlk0 : ∀ W, OwnsN W w.heap.size → (Instr.lookup 55 (.map (some w.heap.size)) (.string U) true).run Tryd.prog W = .ok (.tuple #[.agg #[.int .i64 i, .int .i64 j, .bool y, x3], .bool (lookN U).isSome]) W := fun W hW => by rw [look_ok_run hW U hz, hv]
  clear hv hz
  generalize (lookN U).isSome = yes at hlk0 ⊢
  have HLK := Lib.hid hlk0
  clear hlk0
  rcases h3 with rfl | ⟨f, rfl⟩
  all_goals
    go_enter Tryd.func13, Tryd.ntmps13
    go_wp2_with fail
    refine (names_calls w).mono ?_
    rintro e w1 ⟨rfl, ho, b1⟩
    have HO := Lib.hid ho
    have HB := Lib.hid b1
    clear ho b1
    go_wp2_with fail
    refine (upper_calls s hs w1).mono ?_
    rintro e w2 ⟨rfl, b2⟩
    rw [← HU.out]
    have hb2 := HB.out.trans (b2.mono HB.out.size)
    have hlk := HLK.out w2 (HO.out.above b2)
    have HB2 := Lib.hid hb2
    clear HB HO b2 hb2
    go_wp2
    go_ret
    exact ⟨rfl, by repeat (first | exact HB2.out | apply below_alloc | refine below_set ?_ (by have := HB2.out.size; simp; omega))⟩
theorem fld2 (x0 x1 x3 : Value) (y : Bool) (W : World) : (Instr.field 54 (.agg #[x0, x1, .bool y, x3]) 2).run Tryd.prog W = .ok (.bool y) W := by kernel_rfl
set_option maxHeartbeats 4000000 in
set_option maxRecDepth 100000 in
theorem IsWrite_calls (s : ByteArray) (hs : s.size ≤ 1000) (w : World) : Calls Tryd.prog 14 #[.string s] w fun e w' => e = .returned (.bool (((lookN (upS s)).map Nm.wr).getD false)) ∧ Below w.heap.size w w' := by
  have hz : (upS s).size ≤ maxLen := Nat.le_trans (Nat.le_trans (upS_size s) hs) (by decide)
  have hu : upS s = ⟨(up s).toArray⟩ := rfl
  generalize upS s = U at hz hu ⊢
  have HU := Lib.hid hu
  have hv : ∃ x0 x1 x3, nmVal U = .agg #[x0, x1, .bool (((lookN U).map Nm.wr).getD false), x3] := by
    unfold nmVal
    cases lookN U with
    | some x => exact ⟨_, _, _, rfl⟩
    | none => exact ⟨_, _, _, rfl⟩
  obtain ⟨x0, x1, x3, hv⟩ := hv
  generalize ((lookN U).map Nm.wr).getD false = y at hv ⊢
  have hfd : ∀ W, (Instr.field 54 (.agg #[x0, x1, .bool y, x3]) 2).run Tryd.prog W = .ok (.bool y) W := fun W => fld2 x0 x1 x3 y W
  clear hu
  go_enter Tryd.func14, Tryd.ntmps14
  go_wp2_with fail
  refine (names_calls w).mono ?_
  rintro e w1 ⟨rfl, ho, b1⟩
  have HO := Lib.hid ho
  have HB := Lib.hid b1
  clear ho b1
  go_wp2_with fail
  refine (upper_calls s hs w1).mono ?_
  rintro e w2 ⟨rfl, b2⟩
  rw [← HU.out]
  have hb2 := HB.out.trans (b2.mono HB.out.size)
  have hlk := look_run (HO.out.above b2) U hz
  rw [hv] at hlk
  have HB2 := Lib.hid hb2
  clear HB HO b2 hb2
  go_wp2
  go_ret
  exact ⟨rfl, HB2.out⟩
section
variable {w0 w : World} {b : Nat} {c : Cm} {l : List ByteArray}
theorem zadd_long {k : ByteArray} (hk : ¬ k.size ≤ 64) : zaddZ c (k :: l) = bad 172 := if_neg hk
set_option maxHeartbeats 4000000 in
theorem zadd_big {k : ByteArray} (h : Rd w0 w b c (k :: l)) (hk : ¬ k.size ≤ 64) : Calls Tryd.prog 28 #[.pointer (some ⟨b, 0, none⟩)] w (PostZ w0 w b (zaddZ c (k :: l))) := by
  rw [zadd_long hk]
  go_enter Tryd.func28, Tryd.ntmps28
  go_wp2_with fail
  refine (some1_no h hk).mono ?_
  rintro e w1 ⟨rfl, h1, f1⟩
  have H1 := Lib.hid (show _ ∧ _ from ⟨h1, f1⟩)
  clear h1 f1
  unfold badV
  go_wp2
  go_ret
  exact postE_bad (by decide) H1.out.1 H1.out.2
theorem zadd_calls (h : Rd w0 w b c l) (hl : 3 ≤ l.length) : Calls Tryd.prog 28 #[.pointer (some ⟨b, 0, none⟩)] w (PostZ w0 w b (zaddZ c l)) := by
  match l, hl, h with
  | k :: l, _, h =>
    by_cases hk : k.size ≤ 64
    · cases ho : okF (kfl (knw l)) with
      | true => exact zadd_yes h hk ho
      | false => exact zadd_no h hk ho
    · exact zadd_big h hk
/-- What the function f of the program makes of a list. -/
def readZ (f : Nat) (c : Cm) (l : List ByteArray) : Rz :=
  if f = 25 then keysZ c l else if f = 26 then scanZ c l else if f = 27 then objectZ c l else if f = 28 then zaddZ c l else if f = 29 then zincrbyZ c l else if f = 30 then (memE l, memC c l, [])
  else if f = 31 then placesZ c l else if f = 32 then boundsZ c l else if f = 33 then edgesZ c l else if f = 34 then popZ c l else if f = 35 then weightedZ c l else if f = 36 then plainZ c l else zscanZ c l
theorem reads_calls {x : Nm} (hx : x ∈ nmT) (h : Rd w0 w b c l) (hw : c.ws = []) (hlo : x.lo ≤ (l.length : Int) + 1) : Calls Tryd.prog x.f #[.pointer (some ⟨b, 0, none⟩)] w (PostZ w0 w b (readZ x.f c l)) := by
  have l1 : 1 ≤ l.length → ∃ k r, l = k :: r := fun h => by cases l with | nil => cases h | cons k r => exact ⟨_, _, rfl⟩
  have l2 : 2 ≤ l.length → ∃ k s r, l = k :: s :: r := fun h => by match l, h with | k :: s :: r, _ => exact ⟨_, _, _, rfl⟩
  have l3 : 3 ≤ l.length → ∃ k s m r, l = k :: s :: m :: r := fun h => by match l, h with | k :: s :: m :: r, _ => exact ⟨_, _, _, _, rfl⟩
  have k_keys : Calls Tryd.prog 25 #[.pointer (some ⟨b, 0, none⟩)] w (PostZ w0 w b (readZ 25 c l)) := keys_calls h
  have k_scan : 1 ≤ l.length → Calls Tryd.prog 26 #[.pointer (some ⟨b, 0, none⟩)] w (PostZ w0 w b (readZ 26 c l)) := fun hl => by obtain ⟨_, _, rfl⟩ := l1 hl; exact scan_calls h
  have k_object : Calls Tryd.prog 27 #[.pointer (some ⟨b, 0, none⟩)] w (PostZ w0 w b (readZ 27 c l)) := object_calls h
  have k_zadd : 3 ≤ l.length → Calls Tryd.prog 28 #[.pointer (some ⟨b, 0, none⟩)] w (PostZ w0 w b (readZ 28 c l)) := fun hl => zadd_calls h hl
  have k_zincrby : 3 ≤ l.length → Calls Tryd.prog 29 #[.pointer (some ⟨b, 0, none⟩)] w (PostZ w0 w b (readZ 29 c l)) := fun hl => by obtain ⟨_, _, _, _, rfl⟩ := l3 hl; exact zincrby_calls h
  have k_members : 1 ≤ l.length → Calls Tryd.prog 30 #[.pointer (some ⟨b, 0, none⟩)] w (PostZ w0 w b (readZ 30 c l)) := fun hl => members_calls h hl
  have k_places : 3 ≤ l.length → Calls Tryd.prog 31 #[.pointer (some ⟨b, 0, none⟩)] w (PostZ w0 w b (readZ 31 c l)) := fun hl => by obtain ⟨_, _, _, _, rfl⟩ := l3 hl; exact places_calls h
  have k_bounds : 3 ≤ l.length → Calls Tryd.prog 32 #[.pointer (some ⟨b, 0, none⟩)] w (PostZ w0 w b (readZ 32 c l)) := fun hl => by obtain ⟨_, _, _, _, rfl⟩ := l3 hl; exact bounds_calls h
  have k_edges : 3 ≤ l.length → Calls Tryd.prog 33 #[.pointer (some ⟨b, 0, none⟩)] w (PostZ w0 w b (readZ 33 c l)) := fun hl => by obtain ⟨_, _, _, _, rfl⟩ := l3 hl; exact edges_calls h
  have k_pop : 1 ≤ l.length → Calls Tryd.prog 34 #[.pointer (some ⟨b, 0, none⟩)] w (PostZ w0 w b (readZ 34 c l)) := fun hl => by obtain ⟨_, _, rfl⟩ := l1 hl; exact pop_calls h
  have k_weighted : 2 ≤ l.length → Calls Tryd.prog 35 #[.pointer (some ⟨b, 0, none⟩)] w (PostZ w0 w b (readZ 35 c l)) := fun hl => by obtain ⟨_, _, _, rfl⟩ := l2 hl; exact weighted_calls h hw
  have k_plain : 2 ≤ l.length → Calls Tryd.prog 36 #[.pointer (some ⟨b, 0, none⟩)] w (PostZ w0 w b (readZ 36 c l)) := fun hl => by obtain ⟨_, _, _, rfl⟩ := l2 hl; exact plain_calls h
  have k_zscan : 2 ≤ l.length → Calls Tryd.prog 37 #[.pointer (some ⟨b, 0, none⟩)] w (PostZ w0 w b (readZ 37 c l)) := fun hl => by obtain ⟨_, _, _, rfl⟩ := l2 hl; exact zscan_calls h
  simp only [nmT, List.mem_cons, List.not_mem_nil, or_false] at hx
  clear l1 l2 l3 h
  rcases hx with rfl | rfl | rfl | rfl | rfl | rfl | rfl | rfl | rfl | rfl | rfl | rfl | rfl | rfl | rfl | rfl | rfl | rfl | rfl | rfl | rfl | rfl | rfl | rfl | rfl | rfl | rfl | rfl | rfl
  all_goals
    simp only [nm0, nm1, nm2, nm3, nm4, nm5, nm6, nm7, nm8, nm9, nm10, nm11, nm12, nm13, nm14, nm15, nm16, nm17, nm18, nm19, nm20, nm21, nm22, nm23, nm24, nm25, nm26, nm27, nm28] at hlo ⊢
    first | exact k_keys | exact k_object | exact k_scan (by omega) | exact k_zadd (by omega) | exact k_zincrby (by omega) | exact k_members (by omega) | exact k_places (by omega) | exact k_bounds (by omega) | exact k_edges (by omega) | exact k_pop (by omega) | exact k_weighted (by omega) | exact k_plain (by omega) | exact k_zscan (by omega)
end
section
variable {P : Program} {W : World} {B : Nat} {T : TypeId} {cs : Array Value}
theorem Blk.range (h : Blk W B T cs) (o : Nat) (xs : List Value) (hx : ∀ j v, xs[j]? = some v → cs[o + j]? = some v) : W.rangeAt B o xs := fun j v hv => by
  rw [h.cell]
  exact hx j v hv
theorem Blk.stored (h : Blk W B T cs) (cs' : Array Value) (hs : cs'.size = cs.size) : Blk (W.setCells B 0 cs'.toList) B T cs' ∧ W.grownBy (W.setCells B 0 cs'.toList) (some B) ∧ (W.setCells B 0 cs'.toList).heap.size = W.heap.size := by
  obtain ⟨cur', h3, h4, h5⟩ := setCells_row cs'.toList 0 W cs h (by simp; omega)
  obtain ⟨s1, s2, s3, s4⟩ := setCells_same B cs'.toList 0 W
  have he : cur' = cs' := by
    apply Array.toList_inj.1
    rw [h5, List.take_zero, List.nil_append, List.drop_of_length_le (by simp; omega), List.append_nil]
  exact ⟨he ▸ h3, ⟨s1, s2, s3, by rw [s4]; exact Nat.le_refl _, fun k _ hk => setCells_far _ _ k (fun e => hk (by rw [e]))⟩, s4⟩
theorem Blk.there (h : Blk W B T cs) (n : Nat) (hn : n ≤ cs.size) : W.there B 0 n := fun j hj => ⟨by rw [h.cell]; simp; omega, h.frozen _⟩
theorem wpList_stblk {ops : Array Oper} {rest : List Oper} {o : Oper} {a : Act} {Q : Exit → Act → World → Prop} (ty : TypeId) (x y : Operand) (ho : o.op = .store ty x y) (hg : o.guard = none)
    (h : Blk W B T cs) (cs' : Array Value) (hx : a.eval x = .pointer (some ⟨B, 0, none⟩)) (hy : a.eval y = .agg cs') (hs : cs'.size = cs.size) (hi : (P.info? ty).map (·.size) = some cs'.size) (h1 : cs'.all (·.oneCell') = true)
    (hK : ∀ W', Blk W' B T cs' → W.grownBy W' (some B) → W'.heap.size = W.heap.size → wpList P ops Q rest (a.put o.dst undef) W') : wpList P ops Q (o :: rest) a W := by
  obtain ⟨k1, k2, k3⟩ := h.stored cs' hs
  exact wpList_store_mid hg ty x y ho B 0 cs' hx hy (h.there _ (by omega)) hi h1 (hK _ k1 k2 k3)
end
end Go.Proofs.YtegmbgjolnbgpaaDoor.P
/- command.Parse. Conditions: a list of at most 400 texts of at most 1000 bytes; the variable errors.errorType is laid. -/
namespace Go.Proofs.YtegmbgjolnbgpaaDoor.P
open Go.RowKit Go.Shelf Go.Proofs.YtegmbgjolnbgpaaDoorW.PrintWords Go.Proofs.YtegmbgjolnbgpaaDoorW.PrintLast Go.Proofs.YtegmbgjolnbgpaaDoorW.PrintMore
attribute [local go_sem] Oper.semAt_some
set_option linter.unusedSimpArgs false

/-- errors.errorType as the program's start lays it. -/
def Gl (w : World) : Prop := w.cell? ⟨0, 0, none⟩ = some (.iface 142 (.agg #[.pointer (some ⟨1, 58, none⟩)]))
theorem Gl.lt {w : World} (h : Gl w) : 0 < w.heap.size := by
  rcases Nat.eq_zero_or_pos w.heap.size with h0 | h1
  · simp [Gl, World.cell?, h0] at h
  · exact h1
theorem Gl.below {w w' : World} (h : Gl w) (hb : Below w.heap.size w w') : Gl w' := (hb.cell (p := ⟨0, 0, none⟩) h.lt).trans h
/-- What a list of texts says: the command, and what is wrong. -/
def parseX (x : Nm) (U : ByteArray) (l : List ByteArray) : Cm × Int :=
  if (l.length : Int) + 1 < x.lo ∨ x.hi < (l.length : Int) + 1 then (zCm, 171)
  else if (readZ x.f { zCm with name := U } l).1 = 0 then ((readZ x.f { zCm with name := U } l).2.1, 0) else (zCm, (readZ x.f { zCm with name := U } l).1)
def parseN (y : Option Nm) (U : ByteArray) (l : List ByteArray) : Cm × Int := match y with
  | none => (zCm, 170)
  | some x => parseX x U l
def parseP : List ByteArray → Cm × Int
  | [] => (zCm, 170)
  | s :: l => parseN (lookN (upS s)) (upS s) l
def nilS : Value := .slice none 0 0
def PostP (w : World) (r : Cm × Int) (e : Ending) (w' : World) : Prop :=
  Below w.heap.size w w' ∧ ∃ vk ve vw, e = .returned (.tuple #[.agg (cmCells r.1 vk ve vw), .int .i64 r.2]) ∧ RK w' w.heap.size vk r.1.keys ∧ RE w' w.heap.size ve r.1.ents ∧ RW w' w.heap.size vw r.1.ws
theorem infoCmd : (Tryd.prog.info? 35).map (·.size) = some 29 := by kernel_rfl
theorem one_cm (c : Cm) (A1 A2 A3 : Option Addr) (n1 n2 n3 m1 m2 m3 : Nat) : (cmCells c (.slice A1 n1 m1) (.slice A2 n2 m2) (.slice A3 n3 m3)).all (·.oneCell') = true := by
  simp [cmCells, Value.oneCell']
theorem loadCmd {W : World} {B T : Nat} {cs : Array Value} {c : Cm} {vk ve vw : Value} (h : Blk W B T cs) (hx : ∀ (j : Nat) v, (cmCells c vk ve vw)[j]? = some v → cs[j]? = some v) : (loadVar 35 ⟨B, 0, none⟩).run Tryd.prog W = .ok (.agg (cmCells c vk ve vw)) W := by
  have := run_loadVar_mid (P := Tryd.prog) W B 0 35 (cmCells c vk ve vw).toList _ (h.range 0 _ (fun j v hv => by rw [Nat.zero_add]; exact hx j v (by simpa using hv))) Tryd.underlying35 rfl infoCmd
  simpa using this
theorem res_two {P : Program} {fn : Func} {a b : Tmp} {t : TypeId} (h : fn.results = #[.cell a t, .tmp b]) {tmps : Array Value} {w : World} {A : Addr} {v x : Value} (ha : tmps.getD a undef = .pointer (some A)) (hx : tmps.getD b undef = x) (h1 : (loadVar t A).run P w = .ok v w) : (results fn tmps).run P w = .ok (.tuple #[v, x]) w := by
  rw [Array.getD_eq_getD_getElem?] at ha hx
  simp [results, h, ha, hx, asAddr, h1]
theorem end_parse {fn : Func} {a b : Tmp} {tmps : Array Value} {W : World} {B : Nat} {c : Cm} {vk ve vw : Value} {e : Int} {R : Ending → World → Prop} (hr : fn.results = #[.cell a 35, .tmp b]) (ha : tmps.getD a undef = .pointer (some ⟨B, 0, none⟩)) (hx : tmps.getD b undef = .int .i64 e)
    (hB : Blk W B 35 (cmCells c vk ve vw)) (h : R (.returned (.tuple #[.agg (cmCells c vk ve vw), .int .i64 e])) W) : bodyPost Tryd.prog fn R .ret { tmps, defers := [] } W :=
  bodyPost_ret (res_two hr ha hx (loadCmd hB (fun _ _ h => h))) rfl h
theorem wp_at {P : Program} {s : Code} {Q : Exit → Act → World → Prop} {a : Act} {W W' : World} (h : W = W') (k : s.wp P Q a W') : s.wp P Q a W := h ▸ k
theorem post_zero {w w' : World} {e : Int} (hb : Below w.heap.size w w') : PostP w (zCm, e) (.returned (.tuple #[.agg (cmCells zCm nilS nilS nilS), .int .i64 e])) w' :=
  ⟨hb, nilS, nilS, nilS, rfl, Kd.R_nil _ _ _ _ _, Kd.R_nil _ _ _ _ _, Kd.R_nil _ _ _ _ _⟩
set_option maxHeartbeats 4000000 in
set_option maxRecDepth 100000 in
theorem parse_nil (w : World) (n : Nat) (A : Option Addr) : Calls Tryd.prog 9 #[.slice A 0 n] w (PostP w (zCm, 170)) := by
  obtain ⟨w1, hw1, B1, b1⟩ : ∃ w1, w.alloc (.cells (cmCells zCm nilS nilS nilS) 35) = w1 ∧ Blk w1 w.heap.size 35 (cmCells zCm nilS nilS nilS) ∧ Below w.heap.size w w1 := ⟨_, rfl, Blk.new w _ _, below_box w _⟩
  have HW := Lib.hid hw1
  have HB := Lib.hid (⟨B1, b1⟩ : _ ∧ _)
  clear hw1 B1 b1
  go_enter Tryd.func9, Tryd.ntmps9
  go_upto_region 1 with (fail)
  refine wp_at HW.out ?_
  clear HW
  go_wp2_with (refine wpList_stblk 35 (.tmp 2) (.tmp 17) rfl rfl HB.out.1 (cmCells zCm nilS nilS nilS) rfl rfl rfl infoCmd (one_cm _ _ _ _ _ _ _ _ _ _) ?_; intro w2 B2 g2 _; have HB2 := Lib.hid B2; have HG2 := Lib.hid g2; clear B2 g2)
  refine end_parse rfl rfl rfl HB2.out (post_zero (HB.out.2.grown HG2.out HB.out.2.size (fun k e => by cases e; exact Nat.le_refl _)))
set_option maxHeartbeats 4000000 in
set_option maxRecDepth 100000 in
theorem parse_none (w : World) (n : Nat) (ad : Addr) (s : ByteArray) (l : Nat) (hs : s.size ≤ 1000) (hl : l ≤ 400) (hc : w.cell? ad = some (.string s)) (hlt : ad.block < w.heap.size) (hk : lookN (upS s) = none) : Calls Tryd.prog 9 #[.slice (some ad) (l + 1) n] w (PostP w (zCm, 170)) := by
  obtain ⟨w1, hw1, B1, b1⟩ : ∃ w1, w.alloc (.cells (cmCells zCm nilS nilS nilS) 35) = w1 ∧ Blk w1 w.heap.size 35 (cmCells zCm nilS nilS nilS) ∧ Below w.heap.size w w1 := ⟨_, rfl, Blk.new w _ _, below_box w _⟩
  have hc1 : w1.cell? ad = some (.string s) := (b1.cell hlt).trans hc
  have HK := Lib.hid (Known_calls s hs w1)
  rw [hk] at HK
  have HW := Lib.hid hw1
  have HB := Lib.hid (⟨B1, b1⟩ : _ ∧ _)
  clear hw1 B1 b1 hk hc hlt
  go_enter Tryd.func9, Tryd.ntmps9
  go_upto_region 1 with (fail)
  refine wp_at HW.out ?_
  clear HW
  go_wp2_with fail
  refine HK.out.mono ?_
  rintro e w2 ⟨rfl, b2⟩
  have HB2 := Lib.hid (⟨HB.out.1.below b2, HB.out.2.trans (b2.mono HB.out.2.size)⟩ : Blk w2 w.heap.size 35 (cmCells zCm nilS nilS nilS) ∧ Below w.heap.size w w2)
  clear HB HK b2 hc1
  simp only [Option.isSome_none]
  go_wp2_with (refine wpList_stblk 35 (.tmp 2) (.tmp 17) rfl rfl HB2.out.1 (cmCells zCm nilS nilS nilS) rfl rfl rfl infoCmd (one_cm _ _ _ _ _ _ _ _ _ _) ?_; intro w3 B3 g3 _; have HB3 := Lib.hid B3; have HG3 := Lib.hid g3; clear B3 g3)
  refine end_parse rfl rfl rfl HB3.out (post_zero (HB2.out.2.grown HG3.out HB2.out.2.size (fun k e => by cases e; exact Nat.le_refl _)))
end Go.Proofs.YtegmbgjolnbgpaaDoor.P
