/- So many keys, as the reader takes them. Conditions: each theorem names its own. -/
import Derived.Test.YtegmbgjolnbgpaaDoorCP
namespace Go.Proofs.YtegmbgjolnbgpaaDoor.P
open Go.RowKit Go.Shelf Go.Proofs.YtegmbgjolnbgpaaDoorW.PrintWords Go.Proofs.YtegmbgjolnbgpaaDoorW.PrintLast Go.Proofs.YtegmbgjolnbgpaaDoorW.PrintMore Go.Proofs.YtegmbgjolnbgpaaDoor.RF
attribute [local go_sem] Oper.semAt_some
set_option linter.unusedSimpArgs false

/-- Are so many arguments short enough? -/
def someE (L : List ByteArray) (n : Nat) : Int := if (L.take n).all (fun s => decide (s.size ≤ 64)) = true then 0 else 172
theorem itemS_zero {s : ByteArray} (h : (itemS s).2 = 0) : itemS s = (s, 0) ∧ s.size ≤ 64 := by
  unfold itemS at h ⊢
  split at h
  · rename_i h1
    rw [if_pos h1]
    exact ⟨rfl, h1⟩
  · cases h
theorem itemS_bad {s : ByteArray} (h : (itemS s).2 ≠ 0) : (itemS s).2 = 172 ∧ ¬ s.size ≤ 64 := by
  unfold itemS at h ⊢
  split at h
  · exact absurd rfl h
  · rename_i h1
    rw [if_neg h1]
    exact ⟨rfl, h1⟩
theorem someE_zero {L : List ByteArray} {n : Nat} (h : ∀ x ∈ itemsS L n, x.2 = 0) : someE L n = 0 ∧ (itemsS L n).map (·.1) = L.take n := by
  unfold itemsS at h ⊢
  unfold someE
  have hs : ∀ s ∈ L.take n, itemS s = (s, 0) ∧ s.size ≤ 64 := fun s hs => itemS_zero (h _ (List.mem_map_of_mem hs))
  refine ⟨if_pos (List.all_eq_true.2 fun s hm => decide_eq_true (hs s hm).2), ?_⟩
  rw [List.map_map]
  refine (List.map_congr_left (fun s hm => ?_)).trans (List.map_id _)
  simp [(hs s hm).1]
theorem someE_bad {L : List ByteArray} {n : Nat} {pre : List (ByteArray × Int)} (hp : pre <+: itemsS L n) (h : ∃ x ∈ pre, x.2 ≠ 0) : someE L n = 172 := by
  obtain ⟨x, hx, h2⟩ := h
  have hm : x ∈ itemsS L n := hp.subset hx
  unfold itemsS at hm
  obtain ⟨s, hs, rfl⟩ := List.mem_map.1 hm
  unfold someE
  refine if_neg (fun hall => (itemS_bad h2).2 ?_)
  exact of_decide_eq_true ((List.all_eq_true.1 hall) s hs)
theorem calls_of_wp_marks' {P : Program} {f : FuncId} {fn : Func} {c : Code} {args : Array Value} {w : World} {R : Ending → World → Prop} (n : Nat)
    (hf : P.funcs[f]? = some fn) (hb : fn.body = some c) (h : c.wp P (bodyPostM Fence.wide n P fn R) { tmps := args ++ Array.replicate (fn.ntmps - args.size) undef, defers := [] } w) : Calls P f args w R :=
  callsIn_wide.1 (callsIn_of_wp_marks hf hb trivial (wpIn_wide.2 h) rfl)
/-- What a step that makes rows leaves: nothing where it refuses. -/
def PostE (w0 w : World) (b : Nat) (err : Int) (c : Cm) (l : List ByteArray) (e : Ending) (w' : World) : Prop := e = .returned (refV err) ∧ Below w0.heap.size w0 w' ∧ Fr b w w' ∧ (err = 0 → Rd w0 w' b c l)
/-- What holds behind so many keys. -/
structure SomeI (w0 w : World) (b ra : Nat) (c : Cm) (pre : List (ByteArray × Int)) (W : World) : Prop where
  z : ∀ x ∈ pre, x.2 = 0
  wr : Blk W (ra + 1) 58 #[.nilIface]
  bx : Blk W ra 49 #[.pointer (some ⟨b, 0, none⟩)]
  rd : ∃ l, Rd w0 W b (c.addK (pre.map (·.1))) l
  fr : Fr b w W
structure SomeX (w0 w : World) (b ra : Nat) (cc : Code) (pre : List (ByteArray × Int)) (W : World) : Prop where
  ex : cc = .exit 0
  bad : ∃ x ∈ pre, x.2 ≠ 0
  wr : Blk W (ra + 1) 58 #[refV 172]
  bel : Below w0.heap.size w0 W
  fr : Fr b w W
theorem TS.item {w0 : World} {b : Nat} {L : List ByteArray} {rb nb n : Nat} {pre : List (ByteArray × Int)} {x : ByteArray × Int} {W : World} (h : TS w0 b L rb nb n (pre ++ [x]) W) : ∃ s, x = itemS s := by
  have hm : x ∈ itemsS L (pre ++ [x]).length := by rw [← h.1]; simp
  unfold itemsS at hm
  obtain ⟨s, _, e⟩ := List.mem_map.1 hm
  exact ⟨s, e.symm⟩
set_option maxHeartbeats 8000000 in
set_option maxRecDepth 100000 in
theorem some_calls {w0 w : World} {b : Nat} {c : Cm} {L : List ByteArray} (h : Rd w0 w b c L) (n : Nat) (hn : n ≤ L.length) :
    Calls Tryd.prog 41 #[.pointer (some ⟨b, 0, none⟩), .int .i64 n] w (PostE w0 w b (someE L n) (c.addK (L.take n)) (L.drop n)) := by
  have H := Aside0.mk h
  have hfew := h.few
  have hge := h.ge
  have hlt := h.lt
  have hsz := h.size
  clear h
  refine calls_of_wp_marks' 8 Tryd.func41 rfl ?_
  simp only [Tryd.ntmps41, List.size_toArray, List.length_cons, List.length_nil, Nat.reduceAdd, Nat.reduceSub, Array.replicate_succ, Array.replicate_zero, List.push_toArray, List.append_toArray, List.nil_append, List.cons_append]
  go_wp2
  go_step3
  go_wp2
  go_step3
  go_wp2_with fail
  refine (shorts_calls b n _).mono ?_
  rintro e w3 ⟨rfl, rfl⟩
  go_wp2
  have f1 := (((Blk.new w 49 #[.pointer (some ⟨b, 0, none⟩)]).alloc (.cells #[.nilIface] 58)).alloc (.cells #[.pointer (some ⟨b, 0, none⟩)] 49)).alloc (.cells #[.int .i64 n] 3)
  have f2 := ((Blk.new (w.alloc (.cells #[.pointer (some ⟨b, 0, none⟩)] 49)) 58 #[.nilIface]).alloc (.cells #[.pointer (some ⟨b, 0, none⟩)] 49)).alloc (.cells #[.int .i64 n] 3)
  have f3 := (Blk.new ((w.alloc (.cells #[.pointer (some ⟨b, 0, none⟩)] 49)).alloc (.cells #[.nilIface] 58)) 49 #[.pointer (some ⟨b, 0, none⟩)]).alloc (.cells #[.int .i64 n] 3)
  have f4 := Blk.new (((w.alloc (.cells #[.pointer (some ⟨b, 0, none⟩)] 49)).alloc (.cells #[.nilIface] 58)).alloc (.cells #[.pointer (some ⟨b, 0, none⟩)] 49)) 3 #[.int .i64 n]
  have H0 := Aside0.mk ((((H.out.alloc (.cells #[.pointer (some ⟨b, 0, none⟩)] 49)).alloc (.cells #[.nilIface] 58)).alloc (.cells #[.pointer (some ⟨b, 0, none⟩)] 49)).alloc (.cells #[.int .i64 n] 3))
  have FR0 := Aside0.mk (Fr.below (b := b) ((((below_box w (.cells #[.pointer (some ⟨b, 0, none⟩)] 49)).alloc (by simp) (.cells #[.nilIface] 58)).alloc (by simp; omega) (.cells #[.pointer (some ⟨b, 0, none⟩)] 49)).alloc (by simp; omega) (.cells #[.int .i64 n] 3)))
  simp only [World.size_alloc] at f2 f3 f4
  generalize World.alloc _ (.cells #[.int .i64 n] 3) = W0 at f1 f2 f3 f4 H0 FR0 ⊢
  have g4 := f4.lt
  generalize hra : w.heap.size = ra at f1 f2 f3 f4 g4 hlt ⊢
  clear H
  refine (wpIn_wide (n := 7)).1 ?_
  refine wpIn_rangeFunc_tells rfl (by omega) (gf := 66) (lb := #[.pointer (some ⟨ra + 1 + 1 + 1, 0, none⟩), .pointer (some ⟨ra + 1 + 1, 0, none⟩)]) rfl trivial (enters_of Tryd.func66 (by kernel_rfl) rfl)
    (shorts_tells w0 b L n hn (by omega) (ra + 1 + 1) (ra + 1 + 1 + 1) (by omega) (by omega) W0) (fun h k => h.trans k)
    (fun W l o o' hl h h1 _ => ⟨by simp, fun k hk => World.putObj_heap_other (by have := (Array.getElem?_eq_some_iff.1 h).1; omega), fun c l' hr => ⟨c, hr.own (grownBy_putObj' W l o') (fun r e => by cases e; exact ⟨by omega, o, h, h1⟩)⟩⟩) (Below.refl _ _) (fun _ => rfl)
    (fun A B k o ho hk hA _ => (ho.1.block k (Array.getElem?_eq_some_iff.1 hA).1 (fun e => by cases e; omega)).trans hA)
    (fun pre X Y row hT hg hr => ⟨hT.1, hT.2.1, box_own hT.2.2.1 hg (fun r e => (hr r e).2), box_own hT.2.2.2.1 hg (fun r e => (hr r e).2), by obtain ⟨c1, h1⟩ := hT.2.2.2.2; exact ⟨c1, h1.own hg (fun r e => ⟨by have := (hr r e).1; omega, (hr r e).2⟩)⟩⟩)
    (SomeI w0 w b ra c)
    (SomeX w0 w b ra)
    ?hI ?hIx ?hIOk ?hIxOk ?h0 ?hT0
    (fun x a' _ => a' = { tmps := #[.pointer (some ⟨b, 0, none⟩), .int .i64 n, .pointer (some ⟨ra, 0, none⟩), undef, .nilIface, .pointer (some ⟨ra + 1, 0, none⟩), .string x.1, refV x.2, .pointer (some ⟨b, 0, none⟩), .int .i64 n, .func (.func 66) #[] #[.pointer (some ⟨ra + 1 + 1 + 1, 0, none⟩), .pointer (some ⟨ra + 1 + 1, 0, none⟩)], .string x.1, refV x.2, undef, undef, undef, undef, undef, undef, undef, undef, undef, undef, undef, undef, undef, undef, undef, undef], defers := [] })
    (fun x a' _ _ _ _ hs _ _ => hs) ?assign ?body ?done ?stop
  case hI =>
    rintro pre X Y row ⟨h1, h3, h4, ⟨l, h5⟩, h6⟩ hg hr
    exact ⟨h1, box_own h3 hg (fun r e => (hr r e).2), box_own h4 hg (fun r e => (hr r e).2), ⟨l, h5.own hg (fun r e => ⟨by have := (hr r e).1; omega, (hr r e).2⟩)⟩, h6.own hg (fun r e => (hr r e).2)⟩
  case hIx =>
    rintro cc pre X Y row ⟨h1, h2, h3, h4, h6⟩ hg hr
    exact ⟨h1, h2, box_own h3 hg (fun r e => (hr r e).2), h4.grown hg h4.size (fun k e => by have := (hr k e).1; omega), h6.own hg (fun r e => (hr r e).2)⟩
  case hIOk =>
    rintro pre X Y ⟨h1, h3, h4, ⟨l, h5⟩, h6⟩ hg
    exact ⟨h1, h3.grown hg.1 (fun e => by cases e; omega), h4.grown hg.1 (fun e => by cases e; omega), hg.2 _ _ h5, h6.trans (Fr.grown hg.1)⟩
  case hIxOk =>
    rintro cc pre X Y ⟨h1, h2, h3, h4, h6⟩ hg
    exact ⟨h1, h2, h3.grown hg.1 (fun e => by cases e; omega), below_grown h4 h4.size hg.1 hge, h6.trans (Fr.grown hg.1)⟩
  case h0 => exact ⟨by simp, f2, f1, ⟨L, by rw [List.map_nil, Cm.addK_nil]; exact H0.out⟩, FR0.out⟩
  case hT0 => exact ⟨rfl, Nat.zero_le _, f3, f4, c, H0.out⟩
  case assign =>
    rintro lp pre x W K hI hT hK
    simp only [senc] at hK ⊢
    gi_wp2
    exact hK _ _ (KeepsFrom.refl _ _) ⟨Nat.le_refl _, fun _ _ => rfl, fun c l h => ⟨c, h⟩⟩ hT hI rfl
  case body =>
    rintro lp pre x a' W hl hrec ⟨h1, h3, h4, ⟨l, h5⟩, h6⟩ hT rfl
    have hlen := hT.2.1
    rw [List.length_append, List.length_singleton] at hlen
    obtain ⟨c1, hTr⟩ := hT.2.2.2.2
    have hll := (hTr.inj h5).2
    rw [List.length_append, List.length_singleton] at hll
    have q1 : W.cell? ⟨ra + 1, 0, none⟩ = some .nilIface := h3.cell 0
    have q1f := h3.frozen 0
    have hlt3 := h3.lt
    have hrb := hT.2.2.1
    have hnb := hT.2.2.2.1
    have hrb0 : W.heap[ra + 1 + 1]? = _ := hrb
    have hnb0 : W.heap[ra + 1 + 1 + 1]? = _ := hnb
    by_cases hx : x.2 = 0
    · rw [hx, show refV 0 = .nilIface from rfl]
      have R1 := h5.other h3 (by omega) (by omega) (by decide) (by decide) (by decide) 0 .nilIface
      have k1 := KeepsOthers.setCell W ⟨ra + 1, 0, none⟩ .nilIface
      have b1 := h3.set 0 .nilIface
      have b2 := h4.other (show ra ≠ ra + 1 by omega) 0 .nilIface
      have b3 := hrb.other (show ra + 1 + 1 ≠ ra + 1 by omega) 0 .nilIface
      have b4 := hnb.other (show ra + 1 + 1 + 1 ≠ ra + 1 by omega) 0 .nilIface
      have h7 : ∀ B T cs, Blk w B T cs → B ≠ b → T ≠ 9 → T ≠ 43 → T ≠ 2 → Blk (W.setCell ⟨ra + 1, 0, none⟩ .nilIface) B T cs := fun B T cs hB g0 g1 g2 g3 => (h6 B T cs hB g0 g1 g2 g3).other (by have := hB.lt; omega) 0 .nilIface
      have HF7 := Aside0.mk h7
      have HW := Aside0.mk (⟨h1, h5, k1, b1, b3, b4⟩ : _ ∧ _ ∧ _ ∧ _ ∧ _ ∧ _)
      clear h3 h4 hrb hnb hT hTr h1 h5 b1 b3 b4 k1 h6 h7
      gi_wp2
      clear q1 q1f
      refine region_any_round (F := Fence.wide) (by kernel_rfl) (by kernel_rfl) ?_
      have HW2 := Aside0.mk (⟨HW.out.1, HW.out.2.1, HW.out.2.2.1.trans (KeepsOthers.drew _), HW.out.2.2.2.1.drew, HW.out.2.2.2.2.1.drew, HW.out.2.2.2.2.2.drew, b2.drew⟩ : _ ∧ _ ∧ _ ∧ _ ∧ _ ∧ _ ∧ _)
      have R2 := R1.below (below_drew (Below.refl _ _))
      have HF8 : Aside0 (Fr b w (W.setCell ⟨ra + 1, 0, none⟩ .nilIface).drew) := ⟨fun B T cs hB g0 g1 g2 g3 => (HF7.out B T cs hB g0 g1 g2 g3).drew⟩
      clear HW R1 b2 HF7
      generalize (W.setCell ⟨ra + 1, 0, none⟩ .nilIface).drew = W1 at R2 HW2 HF8 ⊢
      obtain ⟨vk, ve, vw, A, n', X⟩ := R2.open_
      have s1 : W1.cell? ⟨ra, 0, none⟩ = some (.pointer (some ⟨b, 0, none⟩)) := HW2.out.2.2.2.2.2.2.cell 0
      have s2 : W1.cell? ⟨b, 1, none⟩ = some vk := X.blk.cell 1
      have l1 := HW2.out.2.2.2.2.2.2.lt
      have l2 := X.blk.lt
      have hS := And.intro s1 s2
      have HX := Aside0.mk X
      clear X s1 s2 R2
      refine wpAnyIn_of_G (S := fun w' => w'.cell? ⟨ra, 0, none⟩ = some (.pointer (some ⟨b, 0, none⟩)) ∧ w'.cell? ⟨b, 1, none⟩ = some vk) (B := fun j => decide (j < 9)) _ _ _ _ ?_
      refine wpAnyG_take (i := 0) (v := .pointer (some ⟨b, 0, none⟩)) rfl rfl (by kernel_rfl) (by kernel_rfl) (by kernel_rfl) (by kernel_rfl) (fun _ _ _ h => h) (by rfl) (fun _ => rfl) hS (fun w' hw => by obtain ⟨s1, s2⟩ := hw; go_simp) ?_
      simp only [Act.put, List.setIfInBounds_toArray, List.set_cons_zero, List.set_cons_succ]
      refine wpAnyG_take (i := 1) (v := .pointer (some ⟨b, 0, none⟩)) rfl rfl (by kernel_rfl) (by kernel_rfl) (by kernel_rfl) (by kernel_rfl) (fun _ _ _ h => h) (by rfl) (fun _ => rfl) hS (fun w' hw => by obtain ⟨s1, s2⟩ := hw; go_simp) ?_
      simp only [Act.put, List.setIfInBounds_toArray, List.set_cons_zero, List.set_cons_succ]
      refine wpAnyG_take (i := 2) (v := .pointer (some ⟨b, 0, none⟩)) rfl rfl (by kernel_rfl) (by kernel_rfl) (by kernel_rfl) (by kernel_rfl) (fun _ _ _ h => h) (by rfl) (fun _ => rfl) hS (fun w' hw => by obtain ⟨s1, s2⟩ := hw; go_simp) ?_
      simp only [Act.put, List.setIfInBounds_toArray, List.set_cons_zero, List.set_cons_succ]
      refine wpAnyG_take (i := 3) (v := .pointer (some ⟨b, 0, none⟩)) rfl rfl (by kernel_rfl) (by kernel_rfl) (by kernel_rfl) (by kernel_rfl) (fun _ _ _ h => h) (by rfl) (fun _ => rfl) hS (fun w' hw => by obtain ⟨s1, s2⟩ := hw; go_simp) ?_
      simp only [Act.put, List.setIfInBounds_toArray, List.set_cons_zero, List.set_cons_succ]
      refine wpAnyG_take (i := 4) (v := .pointer (some ⟨b, 1, none⟩)) rfl rfl (by kernel_rfl) (by kernel_rfl) (by kernel_rfl) (by kernel_rfl) (fun _ _ _ h => h) (by rfl) (fun _ => rfl) hS (fun w' hw => by obtain ⟨s1, s2⟩ := hw; go_simp) ?_
      simp only [Act.put, List.setIfInBounds_toArray, List.set_cons_zero, List.set_cons_succ]
      refine wpAnyG_take (i := 5) (v := vk) rfl rfl (by kernel_rfl) (by kernel_rfl) (by kernel_rfl) (by kernel_rfl) (fun _ _ _ h => h) (by rfl) (fun _ => rfl) hS (fun w' hw => by obtain ⟨s1, s2⟩ := hw; go_simp) ?_
      simp only [Act.put, List.setIfInBounds_toArray, List.set_cons_zero, List.set_cons_succ]
      refine wpAnyG_take (i := 6) (v := .string x.1) rfl rfl (by kernel_rfl) (by kernel_rfl) (by kernel_rfl) (by kernel_rfl) (fun _ _ _ h => h) (by rfl) (fun _ => rfl) hS (fun w' hw => by obtain ⟨s1, s2⟩ := hw; go_simp) ?_
      simp only [Act.put, List.setIfInBounds_toArray, List.set_cons_zero, List.set_cons_succ]
      refine wpAnyG_one 7 rfl (by kernel_rfl) ?_
      gi_wp2
      refine ⟨fun _ => ?_, ?_⟩
      · exact ⟨by rw [World.cell?_alloc_lt _ _ _ l1]; exact hS.1, by rw [World.cell?_alloc_lt _ _ _ l2]; exact hS.2⟩
      refine wpAnyG_one 8 rfl (by kernel_rfl) ?_
      refine append_inK W1 rfl (.tmp 21) (.tmp 23) rfl w0.heap.size vk (c.addK (pre.map (·.1))).keys x.1 rfl rfl HX.out.K (Nat.le_of_lt (Nat.lt_of_le_of_lt hge l2)) (by have := HX.out.few.1; omega) ?_
      intro v1 w5 hR5 hg5
      obtain ⟨p1, p2, p3, p4⟩ := (HX.out.below (below_box W1 (.cells #[.string x.1] 9))).pushK hg5 hR5 (by rw [← hll, List.length_drop]; show _ + ((c.keys ++ pre.map (·.1)).length + 1) ≤ 500; rw [List.length_append, List.length_map]; omega)
      have b5 := p3 ra _ _ (HW2.out.2.2.2.2.2.2.alloc _) (by decide)
      have bb5 := p3 b _ _ (HX.out.blk.alloc _) (by decide)
      obtain ⟨A1, m1, hv1⟩ := Kd.R_slice hR5
      generalize ((c.addK (pre.map (·.1))).keys ++ [x.1]).length = mm at hv1
      have HP := Aside0.mk (And.intro p1 (And.intro p2 p4))
      clear p1 p2 p3 p4 hR5 hg5
      subst hv1
      refine ⟨fun _ => ⟨b5.cell 0, bb5.cell 1⟩, ?_⟩
      have hf5 := bb5.frozen 1
      have hc5 : w5.cell? ⟨b, 1, none⟩ = some vk := bb5.cell 1
      simp only [Act.put, List.setIfInBounds_toArray, List.set_cons_zero, List.set_cons_succ]
      refine wpAnyG_from 9 (by rfl) (by kernel_rfl) (by omega) ?_
      gi_wp2
      obtain ⟨z1, z2, z3, z4, z5, z6, z7⟩ := HW2.out
      obtain ⟨y1, y2, y3⟩ := HP.out
      have y3' := fun B T cs (hB : Blk W1 B T cs) (hne : B ≠ b) (hT : T ≠ 9) => y3 B T cs (hB.alloc _) hne hT
      have hk := z3.trans ((KeepsOthers.alloc W1 (.cells #[.string x.1] 9)).trans y2)
      have hrd : Rd w0 (w5.setCell ⟨b, 1, none⟩ (.slice A1 mm m1)) b (c.addK ((pre ++ [x]).map (·.1))) l := by
        rw [List.map_append]
        have := y1
        rw [Cm.addK_addK] at this
        exact this
      refine ⟨hk.from _, ⟨hk.size, ?_, ?_⟩, ⟨?_, y3' _ _ _ z4 (by omega) (by decide), y3' _ _ _ z7 (by omega) (by decide), ⟨l, hrd⟩, fun B T cs hB g0 g1 g2 g3 => y3' B T cs (HF8.out B T cs hB g0 g1 g2 g3) g0 g1⟩⟩
      · rintro k (rfl | rfl)
        · exact (y3' _ _ _ z5 (by omega) (by decide)).trans hrb0.symm
        · exact (y3' _ _ _ z6 (by omega) (by decide)).trans hnb0.symm
      · intro c' l' hc'
        obtain ⟨rfl, rfl⟩ := hc'.inj z2
        exact ⟨_, hrd⟩
      · intro y hy
        rcases List.mem_append.1 hy with hy | hy
        · exact z1 y hy
        · obtain rfl := List.mem_singleton.1 hy
          exact hx
    · obtain ⟨s, hs⟩ := hT.item
      have h172 : x.2 = 172 := by rw [hs]; exact (itemS_bad (by rw [← hs]; exact hx)).1
      rw [h172, show refV 172 = .iface 74 (.agg #[.int .i64 172]) from rfl]
      have R1 := h5.other h3 (by omega) (by omega) (by decide) (by decide) (by decide) 0 (refV 172)
      have b1 := h3.set 0 (refV 172)
      have HR1 := Aside0.mk R1
      have HF6 : Aside0 (Fr b w (W.setCell ⟨ra + 1, 0, none⟩ (refV 172))) := ⟨fun B T cs hB g0 g1 g2 g3 => (h6 B T cs hB g0 g1 g2 g3).other (by have := hB.lt; omega) 0 (refV 172)⟩
      clear h3 h4 hrb hnb hT hTr h5 hrb0 hnb0 R1 h6
      gi_wp2
      exact ⟨(KeepsOthers.setCell _ _ _).from _, ⟨rfl, ⟨x, by simp, hx⟩, b1, HR1.out.bel, HF6.out⟩⟩
  case done =>
    rintro D ys W hD rfl hT ⟨h1, h3, h4, ⟨l, h5⟩, h6⟩ hK
    have HF6 := Aside0.mk h6
    clear h6
    have q1 : W.cell? ⟨ra + 1, 0, none⟩ = some .nilIface := h3.cell 0
    obtain ⟨hz, hmap⟩ := someE_zero h1
    obtain ⟨c1, hTr⟩ := hT.2.2.2.2
    obtain ⟨_, rfl⟩ := h5.inj hTr
    rw [hmap, itemsS_len L n hn] at h5
    have H5 := Aside0.mk h5
    have HK := Aside0.mk hK
    have HZ := Aside0.mk hz
    have hDl : D < W.heap.size := (Array.getElem?_eq_some_iff.1 hK).1
    clear hT h1 h3 h4 h5 hK hTr hz hmap
    go_wp2
    rw [Exit.noGoto_ret]
    refine ⟨by simp, .inl ⟨_, _, rfl, run_takeDeferred HK.out, ?_⟩⟩
    have hfin := H5.out.own (grownBy_putObj' W D (.deferred none)) (fun r e => by cases e; exact ⟨by omega, _, HK.out, rfl⟩)
    exact ⟨_, results_tmp (t := 4) rfl _ _ _, by rw [HZ.out]; rfl, hfin.bel, HF6.out.own (grownBy_putObj' W D _) (fun r e => by cases e; exact ⟨_, HK.out, rfl⟩), fun _ => hfin⟩
  case stop =>
    rintro D cc pre W hD hpre ⟨rfl, he, h3, h6, h7⟩ hK
    have HF6 := Aside0.mk h7
    clear h7
    have q1 : W.cell? ⟨ra + 1, 0, none⟩ = some (.iface 74 (.agg #[.int .i64 172])) := h3.cell 0
    have HZ := Aside0.mk (someE_bad hpre he)
    have H6 := Aside0.mk h6
    have HK := Aside0.mk hK
    have hDl : D < W.heap.size := (Array.getElem?_eq_some_iff.1 hK).1
    have hs6 := h6.size
    clear h3 h6 hK hpre he
    gi_wp2
    go_wp2
    rw [Exit.noGoto_ret]
    refine ⟨by simp, .inl ⟨_, _, rfl, run_takeDeferred HK.out, ?_⟩⟩
    refine ⟨_, results_tmp (t := 4) rfl _ _ _, by rw [HZ.out]; rfl, H6.out.grown (grownBy_putObj' W D _) hs6 (fun k e => by cases e; omega), HF6.out.own (grownBy_putObj' W D _) (fun r e => by cases e; exact ⟨_, HK.out, rfl⟩), fun h => by rw [HZ.out] at h; cases h⟩
end Go.Proofs.YtegmbgjolnbgpaaDoor.P
