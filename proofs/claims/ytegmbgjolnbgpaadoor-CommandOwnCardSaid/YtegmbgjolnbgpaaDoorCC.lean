/- The reader's iterator over keys and members, and what a loop over it takes. Conditions: each theorem names its own. -/
import Derived.Test.YtegmbgjolnbgpaaDoorCB
import Derived.Test.YtegmbgjolnbgpaaDoorRG
import Derived.RangeFuncBox
import Derived.RangeFuncOwn
import Derived.Deep.MidRow
namespace Go.Proofs.YtegmbgjolnbgpaaDoor.P
open Go.RowKit Go.Shelf Go.Proofs.YtegmbgjolnbgpaaDoorW.PrintWords Go.Proofs.YtegmbgjolnbgpaaDoorW.PrintLast Go.Proofs.YtegmbgjolnbgpaaDoorW.PrintMore Go.Proofs.YtegmbgjolnbgpaaDoor.RF
attribute [local go_sem] Oper.semAt_some

/-- A row that is read twice. -/
theorem C_ext {α : Type} {d : Kd α} (hinj : ∀ (w : World) (x y : α) (cs : List Value), d.K w x cs → d.K w y cs → x = y) {w : World} {A : Option Addr} {n : Nat} {xs ys : List α} (h : d.C w A n xs) (k : d.C w A n ys) : xs = ys := by
  obtain ⟨h1, _, h3⟩ := h
  obtain ⟨k1, _, k3⟩ := k
  apply List.ext_getElem (by omega)
  intro j hj hj'
  obtain ⟨ad, rfl, hc⟩ := h3 (by omega)
  obtain ⟨ad', e, kc⟩ := k3 (by omega)
  cases e
  obtain ⟨c, c1, c2, c3⟩ := hc j _ (List.getElem?_eq_getElem hj)
  obtain ⟨c', d1, d2, d3⟩ := kc j _ (List.getElem?_eq_getElem hj')
  have : c = c' := by
    apply List.ext_getElem (by omega)
    intro i hi hi'
    have e1 := c3 i _ (List.getElem?_eq_getElem hi)
    have e2 := d3 i _ (List.getElem?_eq_getElem hi')
    rw [e1] at e2
    exact Option.some.inj e2
  subst this
  exact hinj _ _ _ _ c2 d2
theorem str_inj (w : World) (x y : ByteArray) (cs : List Value) (h : Kd.string.K w x cs) (k : Kd.string.K w y cs) : x = y := by
  have h1 : cs = [.string x] := h
  have h2 : cs = [.string y] := k
  rw [h1] at h2
  injection h2 with h2
  injection h2
theorem int_inj (w : World) (x y : Int) (cs : List Value) (h : (Kd.int .i64).K w x cs) (k : (Kd.int .i64).K w y cs) : x = y := by
  have h1 : cs = [.int .i64 x] := h
  have h2 : cs = [.int .i64 y] := k
  rw [h1] at h2
  injection h2 with h2
  injection h2
theorem ent_inj (w : World) (x y : S43) (cs : List Value) (h : k43.K w x cs) (k : k43.K w y cs) : x = y := by
  have h1 := k43_open h
  have h2 := k43_open k
  rw [h1] at h2
  cases x
  cases y
  simp only [List.cons.injEq, Value.string.injEq, Value.int.injEq, and_true, true_and] at h2
  obtain ⟨rfl, rfl⟩ := h2
  rfl
theorem R_inj {α : Type} {d : Kd α} (hinj : ∀ (w : World) (x y : α) (cs : List Value), d.K w x cs → d.K w y cs → x = y) {e : Nat} {w : World} {m : Nat} {ok ok' : Nat → Prop} {v : Value} {xs ys : List α} (h : Kd.R d e w m ok v xs) (k : Kd.R d e w m ok' v ys) : xs = ys := by
  obtain ⟨A, c, rfl, _, hC⟩ := Kd.R_reads h
  obtain ⟨A', c', he, _, kC⟩ := Kd.R_reads k
  injection he with e1 e2 e3
  subst e1
  rw [← e2] at kC
  exact C_ext hinj hC kC
/-- The reader's block tells its command and what is left. -/
theorem Rd.inj {w0 w : World} {b : Nat} {c c' : Cm} {l l' : List ByteArray} (h : Rd w0 w b c l) (k : Rd w0 w b c' l') : c = c' ∧ l = l' := by
  obtain ⟨_, _, _, _, vk, ve, vw, A, n, hB, hn, hC, hK, hE, hW⟩ := h
  obtain ⟨_, _, _, _, vk', ve', vw', A', n', kB, kn, kC, kK, kE, kW⟩ := k
  have hBk : Obj.cells (rdCells c vk ve vw (.slice A l.length n)) 51 (0, 0) = Obj.cells (rdCells c' vk' ve' vw' (.slice A' l'.length n')) 51 (0, 0) := Option.some.inj (hB.symm.trans kB)
  injection hBk with hBk
  obtain ⟨c1, c2, c3, ⟨f1, f2, f3, f4, f5, f6⟩, ⟨g1, g2, g3⟩, ⟨t1, t2, t3⟩, ⟨l1, l2, l3⟩, ⟨u1, u2, u3⟩, c9, c10, c11, c12, c13, c14, c15, c16⟩ := c
  obtain ⟨d1, d2, d3, ⟨f1', f2', f3', f4', f5', f6'⟩, ⟨g1', g2', g3'⟩, ⟨t1', t2', t3'⟩, ⟨l1', l2', l3'⟩, ⟨u1', u2', u3'⟩, d9, d10, d11, d12, d13, d14, d15, d16⟩ := c'
  simp only [rdCells, Array.mk.injEq, List.cons.injEq, Value.string.injEq, Value.int.injEq, Value.bool.injEq, Value.slice.injEq, true_and, and_true] at hBk
  obtain ⟨rfl, rfl, rfl, rfl, rfl, rfl, rfl, rfl, rfl, rfl, rfl, rfl, rfl, rfl, rfl, rfl, rfl, rfl, rfl, rfl, rfl, rfl, rfl, rfl, rfl, rfl, rfl, rfl, rfl, rfl, hll, rfl⟩ := hBk
  rw [← hll] at kC
  obtain rfl := C_ext str_inj hC kC
  obtain rfl := R_inj str_inj hK kK
  obtain rfl := R_inj ent_inj hE kE
  obtain rfl := R_inj int_inj hW kW
  exact ⟨rfl, rfl⟩
theorem R_own' {α : Type} {d : Kd α} {e base : Nat} {ok : Nat → Prop} {X Y : World} {v : Value} {xs : List α} {row : Option Nat} (h : Kd.R d e X base ok v xs) (hg : X.grownBy Y row) (hr : ∀ r, row = some r → ∃ o : Obj, X.heap[r]? = some o ∧ o.isCells = false) : Kd.R d e Y base ok v xs :=
  Kd.R_mono (Kd.R_grown (Kd.R_bound h) hg (fun k hk e => by
    obtain ⟨_, _, _, q, _, cells, hc⟩ := hk
    obtain ⟨o, ho, hn⟩ := hr k e.symm
    rw [hc] at ho
    cases ho
    cases hn)) (fun k hk => hk.1)
/-- A loop's own records have changed. -/
theorem Rd.own {w0 X Y : World} {b : Nat} {c : Cm} {l : List ByteArray} {row : Option Nat} (h : Rd w0 X b c l) (hg : X.grownBy Y row) (hr : ∀ r, row = some r → w0.heap.size ≤ r ∧ ∃ o : Obj, X.heap[r]? = some o ∧ o.isCells = false) : Rd w0 Y b c l := by
  obtain ⟨k1, k2, k3, k4, vk, ve, vw, A, n, hB, hn, hC, hK, hE, hW⟩ := h
  refine ⟨k1.grown hg k1.size (fun k e => (hr k e).1), k2, k3, k4, vk, ve, vw, A, n, hB.grown hg (fun e => ?_), hn, hC, R_own' hK hg (fun r e => (hr r e).2), R_own' hE hg (fun r e => (hr r e).2), R_own' hW hg (fun r e => (hr r e).2)⟩
  obtain ⟨_, o, ho, hc⟩ := hr b e.symm
  rw [show X.heap[b]? = _ from hB] at ho
  cases ho
  cases hc
theorem box_own {X Y : World} {B T : Nat} {cs : Array Value} {row : Option Nat} (h : Blk X B T cs) (hg : X.grownBy Y row) (hr : ∀ r, row = some r → ∃ o : Obj, X.heap[r]? = some o ∧ o.isCells = false) : Blk Y B T cs := by
  refine h.grown hg (fun e => ?_)
  obtain ⟨o, ho, hc⟩ := hr B e.symm
  rw [show X.heap[B]? = _ from h] at ho
  cases ho
  cases hc
/-- What the iterator hands over for an argument. -/
def itemS (s : ByteArray) : ByteArray × Int := if s.size ≤ 64 then (s, 0) else (⟨#[]⟩, 172)
theorem shortV_item (s : ByteArray) : shortV s = .tuple #[.string (itemS s).1, refV (itemS s).2] := by
  unfold shortV itemS
  split
  · rfl
  · rfl
def senc (x : ByteArray × Int) : Array Value := #[.string x.1, refV x.2]
def itemsS (L : List ByteArray) (n : Nat) : List (ByteArray × Int) := (L.take n).map itemS
theorem itemsS_len (L : List ByteArray) (n : Nat) (h : n ≤ L.length) : (itemsS L n).length = n := by unfold itemsS; rw [List.length_map, List.length_take]; omega
theorem itemsS_succ (L : List ByteArray) (n : Nat) (h : n < L.length) : itemsS L (n + 1) = itemsS L n ++ [itemS (L[n]'h)] := by
  unfold itemsS
  rw [List.take_succ_eq_append_getElem h, List.map_append]
  rfl
theorem itemsS_prefix (L : List ByteArray) {j n : Nat} (h : j ≤ n) : itemsS L j <+: itemsS L n := (List.take_prefix_take_left h).map _
/-- What the rounds leave: the iterator's two boxes, and the reader with what is left. -/
structure KeepS (w0 : World) (b rb nb : Nat) (A B : World) : Prop where
  size : A.heap.size ≤ B.heap.size
  same : ∀ k, (k = rb ∨ k = nb) → B.heap[k]? = A.heap[k]?
  rd : ∀ c l, Rd w0 A b c l → ∃ c', Rd w0 B b c' l
theorem KeepS.trans {w0 : World} {b rb nb : Nat} {A B C : World} (h : KeepS w0 b rb nb A B) (k : KeepS w0 b rb nb B C) : KeepS w0 b rb nb A C :=
  ⟨Nat.le_trans h.size k.size, fun i hi => (k.same i hi).trans (h.same i hi), fun c l hr => by
    obtain ⟨c1, h1⟩ := h.rd c l hr
    exact k.rd c1 l h1⟩
/-- The iterator's own steps. -/
def OkS (w0 : World) (b : Nat) (A B : World) : Prop := A.grownBy B (some b) ∧ ∀ c l, Rd w0 A b c l → ∃ l', Rd w0 B b c l'
/-- What the iterator tells a round. -/
def TS (w0 : World) (b : Nat) (L : List ByteArray) (rb nb n : Nat) (pre : List (ByteArray × Int)) (W : World) : Prop :=
  pre = itemsS L pre.length ∧ pre.length ≤ n ∧ Blk W rb 49 #[.pointer (some ⟨b, 0, none⟩)] ∧ Blk W nb 3 #[.int .i64 n] ∧ ∃ c, Rd w0 W b c (L.drop pre.length)
set_option maxHeartbeats 8000000 in
set_option maxRecDepth 100000 in
theorem shorts1_calls (w0 : World) (b : Nat) (L : List ByteArray) (n : Nat) (hn : n ≤ L.length) (hn2 : n ≤ 1000) (rb nb : Nat) (hr1 : rb ≠ b) (hr2 : nb ≠ b) (lp : Nat) (J Jx : List (ByteArray × Int) → World → Prop)
    (hJ : ∀ s A B, J s A → OkS w0 b A B → J s B)
    (hY : ∀ pre x W, J pre W → TS w0 b L rb nb n (pre ++ [x]) W → YieldAt Fence.wide 5 Tryd.prog lp (senc x) W fun e W' =>
      (e = .returned (.bool true) ∧ J (pre ++ [x]) W' ∧ KeepS w0 b rb nb W W') ∨ (e = .returned (.bool false) ∧ Jx (pre ++ [x]) W'))
    (W : World) (hT : TS w0 b L rb nb n [] W) (h0 : J [] W) :
    Calls Tryd.prog 66 #[.func (.yield lp) #[] #[], .pointer (some ⟨nb, 0, none⟩), .pointer (some ⟨rb, 0, none⟩)] W fun e W' => (∃ v, e = .returned v) ∧
      ((∃ ys, ys = itemsS L n ∧ TS w0 b L rb nb n ys W' ∧ J ys W') ∨ (∃ pre, pre <+: itemsS L n ∧ Jx pre W')) := by
  have HJ := Aside0.mk hJ
  have HY := Aside0.mk hY
  have HT := Aside0.mk hT
  have H0 := Aside0.mk h0
  have hnb0 : W.cell? ⟨nb, 0, none⟩ = some (.int .i64 n) := hT.2.2.2.1.cell 0
  clear hJ hY hT h0
  go_enter Tryd.func66, Tryd.ntmps66
  go_wp2
  clear hnb0
  go_loopg [5] n (fun gg v5 wr => ∃ (j : Nat), v5 = .int .i64 j ∧ j ≤ n ∧ n - j ≤ gg ∧ Aside0 (TS w0 b L rb nb n (itemsS L j) wr) ∧ Aside0 (J (itemsS L j) wr))
  case atStart => exact ⟨0, rfl, Nat.zero_le _, by omega, HT, H0⟩
  case round =>
    obtain ⟨j, rfl, hj, hg, HI, HJp⟩ := hrel
    by_cases hlt : j < n
    · have hjL : j < L.length := by omega
      have hltz : (j : Int) < (n : Int) := by omega
      have hrb : wr.cell? ⟨rb, 0, none⟩ = some (.pointer (some ⟨b, 0, none⟩)) := HI.out.2.2.1.cell 0
      obtain ⟨c, hR⟩ := HI.out.2.2.2.2
      rw [itemsS_len L j (by omega), List.drop_eq_getElem_cons hjL] at hR
      have HR := Aside0.mk hR
      have hcall := short_calls hR
      rw [shortV_item] at hcall
      clear hR
      go_upto_region 2 with fail
      refine (wpIn_wide (n := 6)).1 ?_
      gi_wp2_with fail
      refine ⟨trivial, (callsIn_wide.2 hcall).mono ?_⟩
      rintro e w1 ⟨rfl, hR1, hg1⟩
      have hOk : OkS w0 b wr w1 := ⟨hg1, fun c' l' hc' => by
        obtain ⟨rfl, rfl⟩ := HR.out.inj hc'
        exact ⟨_, hR1⟩⟩
      have HJ1 := Aside0.mk (HJ.out _ _ _ HJp.out hOk)
      have HT1 : Aside0 (TS w0 b L rb nb n (itemsS L (j + 1)) w1) := ⟨⟨by rw [itemsS_len L (j + 1) (by omega)], by rw [itemsS_len L (j + 1) (by omega)]; omega, HI.out.2.2.1.grown hg1 (fun e => hr1 (by cases e; rfl)), HI.out.2.2.2.1.grown hg1 (fun e => hr2 (by cases e; rfl)), c, by rw [itemsS_len L (j + 1) (by omega)]; exact hR1⟩⟩
      clear hcall hR1 hg1 hOk
      obtain ⟨fn, tmps, assign, body, hy, hRr⟩ := HY.out (itemsS L j) (itemS (L[j]'hjL)) w1 HJ1.out (by rw [← itemsS_succ]; exact HT1.out)
      simp only [senc] at hy
      have HRo := Aside0.mk hRr
      clear hRr
      gi_wp2
      refine HRo.out.mono ?_
      rintro e W3 (⟨rfl, hJ3, hb3⟩ | ⟨rfl, hJx3⟩)
      · gi_wp2
        go_wp2
        go_roundg (n - (j + 1))
        case measure => omega
        case rel =>
          obtain ⟨c1, h1⟩ := HT1.out.2.2.2.2
          obtain ⟨c2, h2⟩ := hb3.rd _ _ h1
          exact ⟨j + 1, by go_num, by omega, by omega, ⟨⟨HT1.out.1, HT1.out.2.1, (hb3.same rb (.inl rfl)).trans HT1.out.2.2.1, (hb3.same nb (.inr rfl)).trans HT1.out.2.2.2.1, c2, h2⟩⟩, ⟨by rw [itemsS_succ L j hjL]; exact hJ3⟩⟩
      · gi_wp2
        go_wp2
        refine bodyPost_ret (results_none rfl _ _ _) rfl ?_
        refine ⟨⟨_, rfl⟩, .inr ⟨itemsS L j ++ [itemS (L[j]'hjL)], ?_, hJx3⟩⟩
        rw [← itemsS_succ]
        exact itemsS_prefix L (by omega)
    · have hjn : n = j := by omega
      have hjz : ¬ (j : Int) < (n : Int) := by omega
      have HN := Aside0.mk hjn
      clear hjn
      go_wp2
      go_end0
      rw [HN.out]
      exact ⟨⟨_, rfl⟩, .inl ⟨by have := HI.out; rw [HN.out] at this; exact this, HJp.out⟩⟩
theorem shorts_calls (b n : Nat) (w : World) :
    Calls Tryd.prog 49 #[.pointer (some ⟨b, 0, none⟩), .int .i64 n] w fun e w' =>
      e = .returned (.func (.func 66) #[] #[.pointer (some ⟨w.heap.size + 1, 0, none⟩), .pointer (some ⟨w.heap.size, 0, none⟩)]) ∧ w' = (w.alloc (.cells #[.pointer (some ⟨b, 0, none⟩)] 49)).alloc (.cells #[.int .i64 n] 3) := by
  go_enter Tryd.func49, Tryd.ntmps49
  go_wp2
  go_ret
  exact ⟨rfl, rfl⟩
theorem shorts_tells (w0 : World) (b : Nat) (L : List ByteArray) (n : Nat) (hn : n ≤ L.length) (hn2 : n ≤ 1000) (rb nb : Nat) (hr1 : rb ≠ b) (hr2 : nb ≠ b) (w : World) :
    SeqTells Fence.wide 6 Tryd.prog 66 #[.pointer (some ⟨nb, 0, none⟩), .pointer (some ⟨rb, 0, none⟩)] senc (KeepS w0 b rb nb) (OkS w0 b) (TS w0 b L rb nb n) (fun ys => ys = itemsS L n) (fun pre => pre <+: itemsS L n) w :=
  fun lp J Jx W _ hT hJ _ hY h0 => callsIn_wide.2 (shorts1_calls w0 b L n hn hn2 rb nb hr1 hr2 lp J Jx hJ hY W hT h0)
end Go.Proofs.YtegmbgjolnbgpaaDoor.P
