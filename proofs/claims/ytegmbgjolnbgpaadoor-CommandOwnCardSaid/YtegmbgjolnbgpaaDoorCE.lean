/- The members that a command names, as the reader takes them. Conditions: each theorem names its own. -/
import Derived.Test.YtegmbgjolnbgpaaDoorCD
namespace Go.Proofs.YtegmbgjolnbgpaaDoor.P
open Go.RowKit Go.Shelf Go.Proofs.YtegmbgjolnbgpaaDoorW.PrintWords Go.Proofs.YtegmbgjolnbgpaaDoorW.PrintLast Go.Proofs.YtegmbgjolnbgpaaDoorW.PrintMore Go.Proofs.YtegmbgjolnbgpaaDoor.RF
attribute [local go_sem] Oper.semAt_some
set_option linter.unusedSimpArgs false

def mk0 (s : ByteArray) : S43 := ⟨s, 0⟩
def isRev (s : ByteArray) : Bool := s.toList == [90, 82, 69, 86, 82, 65, 78, 75]
def memE (L : List ByteArray) : Int := if someE L 1 = 0 then someE (L.drop 1) (L.drop 1).length else 172
def memC (c : Cm) (L : List ByteArray) : Cm := { ((c.addK (L.take 1)).addE ((L.drop 1).map mk0)) with tu := isRev c.name }
theorem someE_two (L : List ByteArray) (n : Nat) : someE L n = 0 ∨ someE L n = 172 := by
  unfold someE
  split
  · exact .inl rfl
  · exact .inr rfl
theorem postM_ret {F : Fence} {n : Nat} {P : Program} {fn : Func} {R : Ending → World → Prop} {a : Act} {w : World} {v : Value} (hd : a.defers = []) (hr : (results fn a.tmps).run P w = .ok v w) (h : R (.returned v) w) : bodyPostM F n P fn R .ret a w := by
  show LeavesInM F n P fn a.tmps R a.defers .returning w
  rw [hd]
  exact ⟨v, hr, h⟩
theorem res_cell {P : Program} {fn : Func} {a : Tmp} {t : TypeId} (h : fn.results = #[.cell a t]) {tmps : Array Value} {w : World} {A : Addr} {v : Value} (ha : tmps.getD a undef = .pointer (some A)) (h1 : (loadVar t A).run P w = .ok v w) : (results fn tmps).run P w = .ok v w := by
  rw [Array.getD_eq_getD_getElem?] at ha
  simp [results, h, ha, asAddr, h1]
theorem loadErr {w : World} {A : Addr} {v : Value} (h : w.cell? A = some v) : (loadVar 58 A).run Tryd.prog w = .ok v w := by
  simp [loadVar, isAgg, underlying, Tryd.underlying58, h, go_sem]
theorem end_cell {fn : Func} {a : Tmp} {tmps : Array Value} {W : World} {D re : Nat} {v : Value} {n : Nat} {R : Ending → World → Prop} (hr : fn.results = #[.cell a 58]) (ha : tmps.getD a undef = .pointer (some ⟨re, 0, none⟩)) (hK : W.heap[D]? = some (.deferred (some []))) (hne : re ≠ D) (hv : Blk W re 58 #[v])
    (h : R (.returned v) (W.putObj D (.deferred none))) : bodyPostM Fence.wide n Tryd.prog fn R .ret { tmps, defers := [{ target := .collected D, args := #[] }] } W := by
  have hv2 : Blk (W.putObj D (.deferred none)) re 58 #[v] := (World.putObj_heap_other hne).trans hv
  exact ⟨by simp, .inl ⟨_, _, rfl, run_takeDeferred hK, ⟨v, res_cell hr ha (loadErr (hv2.cell 0)), h⟩⟩⟩
/-- What holds behind so many members. -/
structure MemI (w0 w : World) (b ra : Nat) (c : Cm) (pre : List (ByteArray × Int)) (W : World) : Prop where
  z : ∀ x ∈ pre, x.2 = 0
  wr : Blk W (ra + 1) 58 #[.nilIface]
  bx : Blk W ra 49 #[.pointer (some ⟨b, 0, none⟩)]
  rd : ∃ l, Rd w0 W b (c.addE (pre.map (fun x => mk0 x.1))) l
  fr : Fr b w W
structure MemX (w0 w : World) (b ra : Nat) (cc : Code) (pre : List (ByteArray × Int)) (W : World) : Prop where
  ex : cc = .ret
  bad : ∃ x ∈ pre, x.2 ≠ 0
  wr : Blk W (ra + 1) 58 #[refV 172]
  bel : Below w0.heap.size w0 W
  fr : Fr b w W
set_option maxHeartbeats 8000000 in
set_option maxRecDepth 100000 in
theorem members_calls {w0 w : World} {b : Nat} {c : Cm} {L : List ByteArray} (h : Rd w0 w b c L) (hn : 1 ≤ L.length) :
    Calls Tryd.prog 30 #[.pointer (some ⟨b, 0, none⟩)] w (PostE w0 w b (memE L) (memC c L) []) := by
  have H := Aside0.mk h
  have hge := h.ge
  have hlt := h.lt
  have hsz := h.size
  clear h
  refine calls_of_wp_marks' 8 Tryd.func30 rfl ?_
  simp only [Tryd.ntmps30, List.size_toArray, List.length_cons, List.length_nil, Nat.reduceAdd, Nat.reduceSub, Array.replicate_succ, Array.replicate_zero, List.push_toArray, List.append_toArray, List.nil_append, List.cons_append]
  go_wp2_with fail
  have hcall := some_calls ((H.out.alloc (.cells #[.pointer (some ⟨b, 0, none⟩)] 49)).alloc (.cells #[.nilIface] 58)) 1 hn
  have f1 := ((Blk.new w 49 #[.pointer (some ⟨b, 0, none⟩)]).alloc (.cells #[.nilIface] 58))
  have f2 := (Blk.new (w.alloc (.cells #[.pointer (some ⟨b, 0, none⟩)] 49)) 58 #[.nilIface])
  have FR0 := Aside0.mk (Fr.below (b := b) ((below_box w (.cells #[.pointer (some ⟨b, 0, none⟩)] 49)).alloc (by simp) (.cells #[.nilIface] 58)))
  simp only [World.size_alloc] at f2
  refine hcall.mono ?_
  rintro e w1 ⟨rfl, hb1, hfr1, hrd1⟩
  have g1 := hfr1 _ _ _ f1 (by omega) (by decide) (by decide) (by decide)
  have g2 := hfr1 _ _ _ f2 (by omega) (by decide) (by decide) (by decide)
  have FR1 := Aside0.mk (FR0.out.trans hfr1)
  clear hcall f1 f2 FR0 hfr1 H
  generalize hra : w.heap.size = ra at g1 g2 hlt ⊢
  rcases someE_two L 1 with h0 | h0
  rotate_left
  · have hE : memE L = 172 := by unfold memE; rw [h0, if_neg (by decide)]
    have HE := Aside0.mk hE
    have HB1 := Aside0.mk hb1
    rw [h0, show refV 172 = .iface 74 (.agg #[.int .i64 172]) from rfl]
    have q1 : w1.cell? ⟨ra + 1, 0, none⟩ = some .nilIface := g2.cell 0
    have q1f := g2.frozen 0
    have HG2 := Aside0.mk (g2.set 0 (refV 172))
    clear hrd1 hE h0 hb1
    go_wp2
    refine postM_ret rfl (res_cell rfl rfl (loadErr (HG2.out.cell 0))) ⟨by rw [HE.out]; rfl, HB1.out.setCell (p := ⟨ra + 1, 0, none⟩) (by show w0.heap.size ≤ ra + 1; omega) _, fun B T cs hB g0 k1 k2 k3 => (FR1.out B T cs hB g0 k1 k2 k3).other (by have := hB.lt; omega) 0 _, fun h => by rw [HE.out] at h; cases h⟩
  · have hE : memE L = someE (L.drop 1) (L.drop 1).length := by unfold memE; rw [h0, if_pos rfl]
    have HE := Aside0.mk hE
    rw [h0, show refV 0 = .nilIface from rfl]
    have hR1 := hrd1 h0
    clear hrd1 hE h0
    generalize hL : L.drop 1 = l at hR1 HE
    obtain ⟨vk, ve, vw, A, nn, X⟩ := hR1.open_
    have q1 : w1.cell? ⟨ra, 0, none⟩ = some (.pointer (some ⟨b, 0, none⟩)) := g1.cell 0
    have q2 : w1.cell? ⟨b, 29, none⟩ = some (.slice A l.length nn) := X.blk.cell 29
    have HX := Aside0.mk X
    clear X
    go_wp2
    go_still_tail 6, (by kernel_rfl)
    change wpList _ _ _ _ _ w1.drew
    have hn2 : l.length ≤ 500 := by have := HX.out.few.1; omega
    have H2 := Aside0.mk (HX.out.rd.below (below_drew (Below.refl _ _)))
    have g1' := g1.drew
    have g2' := g2.drew
    have FR2 := Aside0.mk (FR1.out.trans (Fr.below (b := b) (below_drew (Below.refl _ w1))))
    clear HX q1 q2 g1 g2 FR1 hb1
    generalize w1.drew = w2 at H2 g1' g2' FR2 ⊢
    go_wp2_with fail
    refine (shorts_calls b l.length _).mono ?_
    rintro e w3 ⟨rfl, rfl⟩
    go_wp2
    have f1 := (g1'.alloc (.cells #[.pointer (some ⟨b, 0, none⟩)] 49)).alloc (.cells #[.int .i64 l.length] 3)
    have f2 := (g2'.alloc (.cells #[.pointer (some ⟨b, 0, none⟩)] 49)).alloc (.cells #[.int .i64 l.length] 3)
    have f3 := (Blk.new w2 49 #[.pointer (some ⟨b, 0, none⟩)]).alloc (.cells #[.int .i64 l.length] 3)
    have f4 := Blk.new (w2.alloc (.cells #[.pointer (some ⟨b, 0, none⟩)] 49)) 3 #[.int .i64 l.length]
    have H0 := Aside0.mk ((H2.out.alloc (.cells #[.pointer (some ⟨b, 0, none⟩)] 49)).alloc (.cells #[.int .i64 l.length] 3))
    have FR0 := Aside0.mk (FR2.out.trans (Fr.below (b := b) ((below_box w2 (.cells #[.pointer (some ⟨b, 0, none⟩)] 49)).alloc (by simp) (.cells #[.int .i64 l.length] 3))))
    simp only [World.size_alloc] at f4
    have lt1 := g2'.lt
    generalize World.alloc _ (.cells #[.int .i64 l.length] 3) = W0 at f1 f2 f3 f4 H0 FR0 ⊢
    have g4 := f4.lt
    generalize hrb : w2.heap.size = rb at f3 f4 g4 lt1 ⊢
    clear H2 FR2 g1' g2'
    generalize hc1 : c.addK (L.take 1) = c1 at H0
    refine (wpIn_wide (n := 7)).1 ?_
    refine wpIn_rangeFunc_tells rfl (by omega) (gf := 66) (lb := #[.pointer (some ⟨rb + 1, 0, none⟩), .pointer (some ⟨rb, 0, none⟩)]) rfl trivial (enters_of Tryd.func66 (by kernel_rfl) rfl)
      (shorts_tells w0 b l l.length (Nat.le_refl _) (by omega) rb (rb + 1) (by omega) (by omega) W0) (fun h k => h.trans k)
      (fun W l o o' hl h h1 _ => ⟨by simp, fun k hk => World.putObj_heap_other (by have := (Array.getElem?_eq_some_iff.1 h).1; omega), fun c l' hr => ⟨c, hr.own (grownBy_putObj' W l o') (fun r e => by cases e; exact ⟨by omega, o, h, h1⟩)⟩⟩) (Below.refl _ _) (fun _ => rfl)
      (fun A B k o ho hk hA _ => (ho.1.block k (Array.getElem?_eq_some_iff.1 hA).1 (fun e => by cases e; omega)).trans hA)
      (fun pre X Y row hT hg hr => ⟨hT.1, hT.2.1, box_own hT.2.2.1 hg (fun r e => (hr r e).2), box_own hT.2.2.2.1 hg (fun r e => (hr r e).2), by obtain ⟨c1, h1⟩ := hT.2.2.2.2; exact ⟨c1, h1.own hg (fun r e => ⟨by have := (hr r e).1; omega, (hr r e).2⟩)⟩⟩)
      (MemI w0 w b ra c1) (MemX w0 w b ra)
      ?hI ?hIx ?hIOk ?hIxOk ?h0 ?hT0
      (fun x a' _ => a' = { tmps := #[.pointer (some ⟨b, 0, none⟩), .pointer (some ⟨ra, 0, none⟩), .pointer (some ⟨ra + 1, 0, none⟩), .nilIface, .string x.1, refV x.2, .pointer (some ⟨b, 0, none⟩), .nilIface, .nilIface, .bool false, undef, .pointer (some ⟨b, 0, none⟩), .pointer (some ⟨b, 0, none⟩), .pointer (some ⟨b, 0, none⟩), .pointer (some ⟨b, 29, none⟩), .slice A l.length nn, .int .i64 l.length, .func (.func 66) #[] #[.pointer (some ⟨rb + 1, 0, none⟩), .pointer (some ⟨rb, 0, none⟩)], .string x.1, refV x.2, undef, undef, undef, undef, undef, undef, undef, undef, undef, undef, undef, undef, undef, undef, undef, undef, undef, undef, undef, undef, undef, undef, undef, undef, undef, undef], defers := [] })
      (fun x a' _ _ _ _ hs _ _ => hs) ?assign ?body ?done ?stop
    case hI =>
      rintro pre X Y row ⟨h1, h3, h4, ⟨l', h5⟩, h6⟩ hg hr
      exact ⟨h1, box_own h3 hg (fun r e => (hr r e).2), box_own h4 hg (fun r e => (hr r e).2), ⟨l', h5.own hg (fun r e => ⟨by have := (hr r e).1; omega, (hr r e).2⟩)⟩, h6.own hg (fun r e => (hr r e).2)⟩
    case hIx =>
      rintro cc pre X Y row ⟨h1, h2, h3, h4, h6⟩ hg hr
      exact ⟨h1, h2, box_own h3 hg (fun r e => (hr r e).2), h4.grown hg h4.size (fun k e => by have := (hr k e).1; omega), h6.own hg (fun r e => (hr r e).2)⟩
    case hIOk =>
      rintro pre X Y ⟨h1, h3, h4, ⟨l', h5⟩, h6⟩ hg
      exact ⟨h1, h3.grown hg.1 (fun e => by cases e; omega), h4.grown hg.1 (fun e => by cases e; omega), hg.2 _ _ h5, h6.trans (Fr.grown hg.1)⟩
    case hIxOk =>
      rintro cc pre X Y ⟨h1, h2, h3, h4, h6⟩ hg
      exact ⟨h1, h2, h3.grown hg.1 (fun e => by cases e; omega), below_grown h4 h4.size hg.1 hge, h6.trans (Fr.grown hg.1)⟩
    case h0 => exact ⟨by simp, f2, f1, ⟨l, by rw [List.map_nil, Cm.addE_nil]; exact H0.out⟩, FR0.out⟩
    case hT0 => exact ⟨rfl, Nat.zero_le _, f3, f4, c1, H0.out⟩
    case assign =>
      rintro lp pre x W K hI hT hK
      simp only [senc] at hK ⊢
      gi_wp2
      exact hK _ _ (KeepsFrom.refl _ _) ⟨Nat.le_refl _, fun _ _ => rfl, fun c l h => ⟨c, h⟩⟩ hT hI rfl
    case body =>
      rintro lp pre x a' W hl hrec ⟨h1, h3, h4, ⟨l', h5⟩, h6⟩ hT rfl
      have hlen := hT.2.1
      rw [List.length_append, List.length_singleton] at hlen
      obtain ⟨c2, hTr⟩ := hT.2.2.2.2
      have hll := (hTr.inj h5).2
      rw [List.length_append, List.length_singleton] at hll
      have q1 : W.cell? ⟨ra + 1, 0, none⟩ = some .nilIface := h3.cell 0
      have q1f := h3.frozen 0
      have hrbB := hT.2.2.1
      have hnbB := hT.2.2.2.1
      by_cases hx : x.2 = 0
      · rw [hx, show refV 0 = .nilIface from rfl]
        have HW := Aside0.mk (⟨h1, h5, hrbB, hnbB, h6⟩ : _ ∧ _ ∧ _ ∧ _ ∧ _)
        have b2 := h4
        have b3 := h3
        clear h3 h4 hrbB hnbB hT hTr h1 h5 h6
        gi_wp2
        clear q1 q1f
        refine region_any_round (F := Fence.wide) (by kernel_rfl) (by kernel_rfl) ?_
        have HW2 := Aside0.mk (⟨KeepsOthers.drew W, HW.out.2.2.1.drew, HW.out.2.2.2.1.drew, b2.drew, b3.drew⟩ : _ ∧ _ ∧ _ ∧ _ ∧ _)
        have HF8 : Aside0 (Fr b w W.drew) := ⟨fun B T cs hB g0 g1 g2 g3 => (HW.out.2.2.2.2 B T cs hB g0 g1 g2 g3).drew⟩
        have R2 := HW.out.2.1.below (below_drew (Below.refl _ _))
        clear b2 b3
        generalize W.drew = W1 at R2 HW2 HF8 ⊢
        obtain ⟨vk, ve, vw, A', n', X⟩ := R2.open_
        have s1 : W1.cell? ⟨ra, 0, none⟩ = some (.pointer (some ⟨b, 0, none⟩)) := HW2.out.2.2.2.1.cell 0
        have s2 : W1.cell? ⟨b, 2, none⟩ = some ve := X.blk.cell 2
        have l1 := HW2.out.2.2.2.1.lt
        have l2 := X.blk.lt
        have hS := And.intro s1 s2
        have HX := Aside0.mk X
        clear X s1 s2 R2
        refine wpAnyIn_of_G (S := fun w' => w'.cell? ⟨ra, 0, none⟩ = some (.pointer (some ⟨b, 0, none⟩)) ∧ w'.cell? ⟨b, 2, none⟩ = some ve) (B := fun j => decide (j < 10)) _ _ _ _ ?_
        refine wpAnyG_take (i := 0) (v := .pointer (some ⟨b, 0, none⟩)) rfl rfl (by kernel_rfl) (by kernel_rfl) (by kernel_rfl) (by kernel_rfl) (fun _ _ _ h => h) (by rfl) (fun _ => rfl) hS (fun w' hw => by obtain ⟨s1, s2⟩ := hw; go_simp) ?_
        simp only [Act.put, List.setIfInBounds_toArray, List.set_cons_zero, List.set_cons_succ]
        refine wpAnyG_take (i := 1) (v := .pointer (some ⟨b, 0, none⟩)) rfl rfl (by kernel_rfl) (by kernel_rfl) (by kernel_rfl) (by kernel_rfl) (fun _ _ _ h => h) (by rfl) (fun _ => rfl) hS (fun w' hw => by obtain ⟨s1, s2⟩ := hw; go_simp) ?_
        simp only [Act.put, List.setIfInBounds_toArray, List.set_cons_zero, List.set_cons_succ]
        refine wpAnyG_take (i := 2) (v := .pointer (some ⟨b, 0, none⟩)) rfl rfl (by kernel_rfl) (by kernel_rfl) (by kernel_rfl) (by kernel_rfl) (fun _ _ _ h => h) (by rfl) (fun _ => rfl) hS (fun w' hw => by obtain ⟨s1, s2⟩ := hw; go_simp) ?_
        simp only [Act.put, List.setIfInBounds_toArray, List.set_cons_zero, List.set_cons_succ]
        refine wpAnyG_take (i := 3) (v := .pointer (some ⟨b, 0, none⟩)) rfl rfl (by kernel_rfl) (by kernel_rfl) (by kernel_rfl) (by kernel_rfl) (fun _ _ _ h => h) (by rfl) (fun _ => rfl) hS (fun w' hw => by obtain ⟨s1, s2⟩ := hw; go_simp) ?_
        simp only [Act.put, List.setIfInBounds_toArray, List.set_cons_zero, List.set_cons_succ]
        refine wpAnyG_take (i := 4) (v := .pointer (some ⟨b, 2, none⟩)) rfl rfl (by kernel_rfl) (by kernel_rfl) (by kernel_rfl) (by kernel_rfl) (fun _ _ _ h => h) (by rfl) (fun _ => rfl) hS (fun w' hw => by obtain ⟨s1, s2⟩ := hw; go_simp) ?_
        simp only [Act.put, List.setIfInBounds_toArray, List.set_cons_zero, List.set_cons_succ]
        refine wpAnyG_take (i := 5) (v := ve) rfl rfl (by kernel_rfl) (by kernel_rfl) (by kernel_rfl) (by kernel_rfl) (fun _ _ _ h => h) (by rfl) (fun _ => rfl) hS (fun w' hw => by obtain ⟨s1, s2⟩ := hw; go_simp) ?_
        simp only [Act.put, List.setIfInBounds_toArray, List.set_cons_zero, List.set_cons_succ]
        refine wpAnyG_take (i := 6) (v := .string x.1) rfl rfl (by kernel_rfl) (by kernel_rfl) (by kernel_rfl) (by kernel_rfl) (fun _ _ _ h => h) (by rfl) (fun _ => rfl) hS (fun w' hw => by obtain ⟨s1, s2⟩ := hw; go_simp) ?_
        simp only [Act.put, List.setIfInBounds_toArray, List.set_cons_zero, List.set_cons_succ]
        refine wpAnyG_take (i := 7) (v := .agg #[.string x.1, .int .i64 0]) rfl rfl (by kernel_rfl) (by kernel_rfl) (by kernel_rfl) (by kernel_rfl) (fun _ _ _ h => h) (by rfl) (fun _ => rfl) hS (fun w' hw => by obtain ⟨s1, s2⟩ := hw; go_simp) ?_
        simp only [Act.put, List.setIfInBounds_toArray, List.set_cons_zero, List.set_cons_succ]
        refine wpAnyG_one 8 rfl (by kernel_rfl) ?_
        gi_wp2
        refine ⟨fun _ => ?_, ?_⟩
        · exact ⟨by rw [World.cell?_alloc_lt _ _ _ l1]; exact hS.1, by rw [World.cell?_alloc_lt _ _ _ l2]; exact hS.2⟩
        refine wpAnyG_one 9 rfl (by kernel_rfl) ?_
        refine append_inE W1 rfl (.tmp 28) (.tmp 31) rfl w0.heap.size ve (c1.addE (pre.map (fun x => mk0 x.1))).ents (mk0 x.1) rfl rfl HX.out.E (Nat.le_of_lt (Nat.lt_of_le_of_lt hge l2)) (by have := HX.out.few.2.1; omega) ?_
        intro v1 w5 hR5 hg5
        obtain ⟨p1, p2, p3, p4⟩ := (HX.out.below (below_box W1 (.cells #[.string x.1, .int .i64 0] 43))).pushE hg5 hR5 (by have := HX.out.few.2.1; have := H0.out.few.2.1; rw [← hll, List.length_drop]; show _ + ((c1.ents ++ pre.map (fun x => mk0 x.1)).length + 1) ≤ 500; rw [List.length_append, List.length_map]; omega)
        have b5 := p3 ra _ _ (HW2.out.2.2.2.1.alloc _) (by decide)
        have bb5 := p3 b _ _ (HX.out.blk.alloc _) (by decide)
        obtain ⟨A1, m1, hv1⟩ := Kd.R_slice hR5
        generalize ((c1.addE (pre.map (fun x => mk0 x.1))).ents ++ [mk0 x.1]).length = mm at hv1
        have HP := Aside0.mk (And.intro p1 (And.intro p2 p4))
        clear p1 p2 p3 p4 hR5 hg5
        subst hv1
        refine ⟨fun _ => ⟨b5.cell 0, bb5.cell 2⟩, ?_⟩
        have hf5 := bb5.frozen 2
        have hc5 : w5.cell? ⟨b, 2, none⟩ = some ve := bb5.cell 2
        simp only [Act.put, List.setIfInBounds_toArray, List.set_cons_zero, List.set_cons_succ]
        refine wpAnyG_from 10 (by rfl) (by kernel_rfl) (by omega) ?_
        gi_wp2
        obtain ⟨z1, z2, z5, z6, z8⟩ := HW.out
        obtain ⟨k3, r5, r6, r7, r4⟩ := HW2.out
        obtain ⟨y1, y2, y3⟩ := HP.out
        have y3' := fun B T cs (hB : Blk W1 B T cs) (hne : B ≠ b) (hT : T ≠ 43) => y3 B T cs (hB.alloc _) hne hT
        have hk := k3.trans ((KeepsOthers.alloc W1 (.cells #[.string x.1, .int .i64 0] 43)).trans y2)
        have hrd : Rd w0 (w5.setCell ⟨b, 2, none⟩ (.slice A1 mm m1)) b (c1.addE ((pre ++ [x]).map (fun x => mk0 x.1))) l' := by
          rw [List.map_append]
          have := y1
          rw [Cm.addE_addE] at this
          exact this
        refine ⟨hk.from _, ⟨hk.size, ?_, ?_⟩, ⟨?_, y3' _ _ _ r4 (by omega) (by decide), y3' _ _ _ r7 (by omega) (by decide), ⟨l', hrd⟩, fun B T cs hB g0 g1 g2 g3 => y3' B T cs (HF8.out B T cs hB g0 g1 g2 g3) g0 g2⟩⟩
        · rintro k (rfl | rfl)
          · exact (y3' _ _ _ r5 (by omega) (by decide)).trans z5.symm
          · exact (y3' _ _ _ r6 (by omega) (by decide)).trans z6.symm
        · intro c' l'' hc'
          obtain ⟨rfl, rfl⟩ := hc'.inj z2
          exact ⟨_, hrd⟩
        · intro y hy
          rcases List.mem_append.1 hy with hy | hy
          · exact z1 y hy
          · obtain rfl := List.mem_singleton.1 hy
            exact hx
      · obtain ⟨s, hs⟩ := hT.item
        have h172 : x.2 = 172 := by rw [hs]; exact (itemS_bad (by rw [← hs]; exact hx)).1
        rw [h172, show refV 172 = .iface 74 (.agg #[.int .i64 172]) from rfl]
        have R1 := h5.other h3 (by omega) (by omega) (by decide) (by decide) (by decide) 0 (refV 172)
        have b1 := h3.set 0 (refV 172)
        have HR1 := Aside0.mk R1
        have HF6 : Aside0 (Fr b w (W.setCell ⟨ra + 1, 0, none⟩ (refV 172))) := ⟨fun B T cs hB g0 g1 g2 g3 => (h6 B T cs hB g0 g1 g2 g3).other (by have := hB.lt; omega) 0 (refV 172)⟩
        clear h3 h4 hrbB hnbB hT hTr h5 R1 h6
        gi_wp2
        exact ⟨(KeepsOthers.setCell _ _ _).from _, ⟨rfl, ⟨x, by simp, hx⟩, b1, HR1.out.bel, HF6.out⟩⟩
    case done =>
      rintro D ys W hD rfl hT ⟨h1, h3, h4, ⟨l', h5⟩, h6⟩ hK
      obtain ⟨hz, hmap⟩ := someE_zero h1
      obtain ⟨c2, hTr⟩ := hT.2.2.2.2
      obtain ⟨_, rfl⟩ := h5.inj hTr
      have hmap2 : (itemsS l l.length).map (fun x => mk0 x.1) = l.map mk0 := by
        have e : (itemsS l l.length).map (fun x => mk0 x.1) = ((itemsS l l.length).map (·.1)).map mk0 := by rw [List.map_map]; rfl
        rw [e, hmap, List.take_length]
      rw [hmap2, itemsS_len l l.length (Nat.le_refl _), List.drop_length] at h5
      obtain ⟨vk, ve, vw, A', n', X⟩ := h5.open_
      have q1 : W.cell? ⟨ra, 0, none⟩ = some (.pointer (some ⟨b, 0, none⟩)) := h4.cell 0
      have q2 : W.cell? ⟨b, 0, none⟩ = some (.string c1.name) := X.blk.cell 0
      have HK := Aside0.mk hK
      have HZ := Aside0.mk hz
      have HX := Aside0.mk (⟨X.rd, h3, h6⟩ : _ ∧ _ ∧ _)
      have hDl : D < W.heap.size := (Array.getElem?_eq_some_iff.1 hK).1
      clear hT h1 h3 h4 h5 h6 hK hTr hz hmap hmap2 X
      go_wp2
      go_still_tail 10, (by kernel_rfl)
      change wpList _ _ _ _ _ W.drew
      clear q1 q2
      have hR := HX.out.1.below (below_drew (Below.refl _ W))
      have hE1 := HX.out.2.1.drew
      have HF := Aside0.mk (HX.out.2.2.trans (Fr.below (below_drew (Below.refl _ W))))
      have HKd : Aside0 (W.drew.heap[D]? = some (.deferred (some []))) := ⟨HK.out⟩
      have hDl2 : D < W.drew.heap.size := hDl
      clear HX HK hDl
      generalize W.drew = W2 at hR hE1 HF HKd hDl2 ⊢
      have hfb := hR.frozen 26
      obtain ⟨vk', ve', vw', A2, n2, X2⟩ := hR.open_
      have hcb : W2.cell? ⟨b, 26, none⟩ = some (.bool c1.tu) := X2.blk.cell 26
      have hce : (W2.setCell ⟨b, 26, none⟩ (.bool (isRev c1.name))).cell? ⟨ra + 1, 0, none⟩ = some .nilIface := (hE1.other (by omega) 26 _).cell 0
      have hcf : (W2.setCell ⟨b, 26, none⟩ (.bool (isRev c1.name))).frozen? ⟨ra + 1, 0, none⟩ = false := (hE1.other (by omega) 26 _).frozen 0
      have HR3 := Aside0.mk (hR.put (c' := { c1.addE (l.map mk0) with tu := isRev c1.name }) 26 (.bool (isRev c1.name)) rfl rfl rfl (fun _ _ _ _ => rfl))
      have HE3 := Aside0.mk (hE1.other (show ra + 1 ≠ b by omega) 26 (.bool (isRev c1.name)))
      have HF3 : Aside0 (∀ B T cs, Blk w B T cs → B ≠ b → T ≠ 9 → T ≠ 43 → T ≠ 2 → Blk (W2.setCell ⟨b, 26, none⟩ (.bool (isRev c1.name))) B T cs) := ⟨fun B T cs hB g0 g1 g2 g3 => (HF.out B T cs hB g0 g1 g2 g3).other g0 26 _⟩
      clear X2 hR hE1
      have hcmp : memC c L = { c1.addE (l.map mk0) with tu := isRev c1.name } := by rw [← hc1, ← hL]; rfl
      have HC := Aside0.mk hcmp
      clear hcmp hc1 hL
      unfold isRev at *
      go_wp2
      have hD3 : ((W2.setCell ⟨b, 26, none⟩ (.bool (isRev c1.name))).setCell ⟨ra + 1, 0, none⟩ .nilIface).heap[D]? = some (.deferred (some [])) := ((KeepsOthers.setCell W2 ⟨b, 26, none⟩ (.bool (isRev c1.name))).trans (KeepsOthers.setCell _ ⟨ra + 1, 0, none⟩ .nilIface)).same D _ HKd.out rfl
      have hfin := (HR3.out.other HE3.out (by omega) (by omega) (by decide) (by decide) (by decide) 0 .nilIface).own (grownBy_putObj' _ D (.deferred none)) (fun r e => by cases e; exact ⟨by omega, _, hD3, rfl⟩)
      refine end_cell (re := ra + 1) (v := .nilIface) rfl rfl hD3 (by omega) (HE3.out.set 0 .nilIface) ⟨by rw [HE.out, HZ.out]; rfl, hfin.bel, Fr.own (fun B T cs hB g0 g1 g2 g3 => (HF3.out B T cs hB g0 g1 g2 g3).other (by have := hB.lt; omega) 0 .nilIface) (grownBy_putObj' _ D (.deferred none)) (fun r e => by cases e; exact ⟨_, hD3, rfl⟩), fun _ => by rw [HC.out]; exact hfin⟩
    case stop =>
      rintro D cc pre W hD hpre ⟨rfl, he, h3, h6, h7⟩ hK
      have HZ := Aside0.mk (someE_bad hpre he)
      have H6 := Aside0.mk (⟨h3, h6, h7⟩ : _ ∧ _ ∧ _)
      have HK := Aside0.mk hK
      have hDl : D < W.heap.size := (Array.getElem?_eq_some_iff.1 hK).1
      clear h3 h6 hK hpre he h7
      gi_wp2
      have hs6 := H6.out.2.1.size
      refine end_cell (re := ra + 1) (v := refV 172) rfl rfl HK.out (by omega) H6.out.1 ⟨by rw [HE.out, HZ.out], H6.out.2.1.grown (grownBy_putObj' W D _) hs6 (fun k e => by cases e; omega), Fr.own H6.out.2.2 (grownBy_putObj' W D _) (fun r e => by cases e; exact ⟨_, HK.out, rfl⟩), fun h => by rw [HE.out, HZ.out] at h; cases h⟩
end Go.Proofs.YtegmbgjolnbgpaaDoor.P
