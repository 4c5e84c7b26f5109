/- The arguments of a request, one by one, as the parser's iterator hands them over. Conditions: that the text has at most a hundred thousand bytes. -/
import Derived.Test.YtjcbbmjmhfimcaaDoorPK1
namespace Go.Proofs.YtjcbbmjmhfimcaaDoor.P
open Go.RowKit Go.Lib Go.Proofs.YtjcbbmjmhfimcaaDoorW.PrintWords Go.Proofs.YtjcbbmjmhfimcaaDoorW.PrintLast Go.Proofs.YtjcbbmjmhfimcaaDoorW.PrintMore Go.Proofs.YtjcbbmjmhfimcaaDoor.RF
attribute [local go_sem] Oper.semAt_some

/-- What is left behind so many arguments. -/
def restB (s : ByteArray) : Nat → ByteArray
  | 0 => s
  | k + 1 => (bulkB (restB s k)).2.2
/-- The k-th argument, and what is wrong with it. -/
def itemB (s : ByteArray) (k : Nat) : ByteArray × Int := ((bulkB (restB s k)).1, (bulkB (restB s k)).2.1)
def itemsB (s : ByteArray) (k : Nat) : List (ByteArray × Int) := (List.range k).map (itemB s)
theorem itemsB_len (s : ByteArray) (k : Nat) : (itemsB s k).length = k := by unfold itemsB; rw [List.length_map, List.length_range]
theorem itemsB_succ (s : ByteArray) (k : Nat) : itemsB s (k + 1) = itemsB s k ++ [itemB s k] := by
  unfold itemsB
  rw [List.range_succ, List.map_append]
  rfl
theorem itemsB_prefix (s : ByteArray) {j n : Nat} (h : j ≤ n) : itemsB s j <+: itemsB s n := by
  induction n with
  | zero => obtain rfl : j = 0 := by omega
            exact List.prefix_rfl
  | succ n ih =>
    rcases Nat.lt_or_ge j (n + 1) with h1 | h1
    · exact (ih (by omega)).trans (by rw [itemsB_succ]; exact List.prefix_append _ _)
    · obtain rfl : j = n + 1 := by omega
      exact List.prefix_rfl
theorem bulkB_size (s : ByteArray) : (bulkB s).2.2.size ≤ s.size := by
  have h := headB_size s 0 512
  unfold bulkB
  split
  · exact Nat.le_refl _
  · split
    · exact Nat.le_refl _
    · split
      · exact h
      · split
        · exact h
        · split
          · exact h
          · simp only [ByteArray.size_extract]; omega
theorem restB_size (s : ByteArray) (k : Nat) : (restB s k).size ≤ s.size := by
  induction k with
  | zero => exact Nat.le_refl _
  | succ k ih => exact Nat.le_trans (bulkB_size _) ih
def ienc (x : ByteArray × Int) : Array Value := #[.string x.1, erV x.2]
/-- What the rounds leave as it lies: the package's variables, the reader, the iterator's own two boxes. -/
structure Keep72 (R rb nb : Nat) (A B : World) : Prop where
  size : A.heap.size ≤ B.heap.size
  same : ∀ k, (k ≤ 2 ∨ k = R ∨ k = rb ∨ k = nb) → B.heap[k]? = A.heap[k]?
theorem Keep72.trans {R rb nb : Nat} {A B C : World} (h : Keep72 R rb nb A B) (k : Keep72 R rb nb B C) : Keep72 R rb nb A C :=
  ⟨Nat.le_trans h.size k.size, fun i hi => (k.same i hi).trans (h.same i hi)⟩
/-- What the iterator knows of memory behind so many arguments. -/
structure It72 (s : ByteArray) (R rb nb : Nat) (n : Int) (k : Nat) (W : World) : Prop where
  g : G W
  rd : Blk W R 50 #[.string (restB s k)]
  rbx : Blk W rb 48 #[.pointer (some ⟨R, 0, none⟩)]
  nbx : Blk W nb 3 #[.int .i64 n]
theorem It72.keep {s : ByteArray} {R rb nb : Nat} {n : Int} {k : Nat} {A B : World} (h : It72 s R rb nb n k A) (hk : Keep72 R rb nb A B) : It72 s R rb nb n k B := by
  refine ⟨?_, (hk.same R (by omega)).trans h.rd, (hk.same rb (by omega)).trans h.rbx, (hk.same nb (by omega)).trans h.nbx⟩
  have hb := fun i (hi : i ≤ 2) => hk.same i (.inl hi)
  have hl := h.g.lt
  refine ⟨(World.cell?_of_block (a := ⟨0, 0, none⟩) (hb 0 (by omega))).trans h.g.et, ?_⟩
  · obtain ⟨m, hm⟩ := h.g.ml
    exact ⟨m, (World.cell?_of_block (a := ⟨2, 0, none⟩) (hb 2 (by omega))).trans hm⟩
theorem It72.next {s : ByteArray} {R rb nb : Nat} {n : Int} {k : Nat} {A B : World} (h : It72 s R rb nb n k A) (h2 : 2 < R) (hr1 : rb ≠ R) (hr2 : nb ≠ R) (hg : A.grownBy B (some R)) (hR : Blk B R 50 #[.string (restB s (k + 1))]) : It72 s R rb nb n (k + 1) B :=
  ⟨h.g.grown hg (fun r e => by cases e; exact h2), hR, h.rbx.grown hg (fun e => hr1 (by cases e; rfl)), h.nbx.grown hg (fun e => hr2 (by cases e; rfl))⟩
/-- What the iterator tells a round. -/
def T72 (s : ByteArray) (R rb nb : Nat) (n : Int) (pre : List (ByteArray × Int)) (W : World) : Prop := pre = itemsB s pre.length ∧ It72 s R rb nb n pre.length W ∧ pre.length ≤ n.toNat
set_option maxHeartbeats 8000000 in
set_option maxRecDepth 100000 in
theorem it72_calls (s : ByteArray) (hs : s.size ≤ 100000) (R rb nb : Nat) (nz : Int) (hn : nz ≤ 1000) (h2 : 2 < R) (hr1 : rb ≠ R) (hr2 : nb ≠ R) (lp : Nat) (J Jx : List (ByteArray × Int) → World → Prop)
    (hJ : ∀ s A B, J s A → World.grownBy A B (some R) → J s B)
    (hY : ∀ pre x W, J pre W → T72 s R rb nb nz (pre ++ [x]) W → YieldAt Fence.wide 5 Tryd.prog lp (ienc x) W fun e W' =>
      (e = .returned (.bool true) ∧ J (pre ++ [x]) W' ∧ Keep72 R rb nb W W') ∨ (e = .returned (.bool false) ∧ Jx (pre ++ [x]) W'))
    (W : World) (hT : T72 s R rb nb nz [] W) (h0 : J [] W) :
    Calls Tryd.prog 72 #[.func (.yield lp) #[] #[], .pointer (some ⟨nb, 0, none⟩), .pointer (some ⟨rb, 0, none⟩)] W fun e W' => (∃ v, e = .returned v) ∧
      ((∃ ys, ys = itemsB s nz.toNat ∧ T72 s R rb nb nz ys W' ∧ J ys W') ∨ (∃ pre, pre <+: itemsB s nz.toNat ∧ Jx pre W')) := by
  have HJ := Aside0.mk hJ
  have HY := Aside0.mk hY
  have HT := Aside0.mk hT
  have H0 := Aside0.mk h0
  clear hJ hY hT h0
  go_enter Tryd.func72, Tryd.ntmps72
  go_wp2
  go_loopg [4] nz.toNat (fun gg v4 wr => ∃ (j : Nat), v4 = .int .i64 j ∧ j ≤ nz.toNat ∧ nz.toNat - j ≤ gg ∧ Aside0 (It72 s R rb nb nz j wr) ∧ Aside0 (J (itemsB s j) wr))
  case atStart => exact ⟨0, rfl, Nat.zero_le _, by omega, ⟨HT.out.2.1⟩, H0⟩
  case round =>
    obtain ⟨j, rfl, hj, hg, HI, HJp⟩ := hrel
    have hnb : wr.cell? ⟨nb, 0, none⟩ = some (.int .i64 nz) := HI.out.nbx.cell 0
    have hrb : wr.cell? ⟨rb, 0, none⟩ = some (.pointer (some ⟨R, 0, none⟩)) := HI.out.rbx.cell 0
    by_cases hlt : j < nz.toNat
    · have hltz : (j : Int) < nz := by omega
      have hcall := bulk_calls R (restB s j) (Nat.le_trans (restB_size s j) hs) wr HI.out.g HI.out.rd
      go_upto_region 3 with fail
      refine (wpIn_wide (n := 6)).1 ?_
      gi_wp2_with fail
      refine ⟨trivial, (callsIn_wide.2 hcall).mono ?_⟩
      rintro e w1 ⟨rfl, hR1, hg1⟩
      have HI1 := Aside0.mk (HI.out.next h2 hr1 hr2 hg1 hR1)
      have HJ1 := Aside0.mk (HJ.out _ _ _ HJp.out hg1)
      clear hcall hR1 hg1
      obtain ⟨fn, tmps, assign, body, hy, hR⟩ := HY.out (itemsB s j) (itemB s j) w1 HJ1.out (by rw [← itemsB_succ]; exact ⟨by rw [itemsB_len], by rw [itemsB_len]; exact HI1.out, by rw [itemsB_len]; omega⟩)
      simp only [ienc, itemB] at hy
      have HRo := Aside0.mk hR
      clear hR
      gi_wp2
      refine HRo.out.mono ?_
      rintro e W3 (⟨rfl, hJ3, hb3⟩ | ⟨rfl, hJx3⟩)
      · gi_wp2
        go_wp2
        go_roundg (nz.toNat - (j + 1))
        case measure => omega
        case rel => exact ⟨j + 1, by go_num, by omega, by omega, ⟨HI1.out.keep hb3⟩, ⟨by rw [itemsB_succ]; exact hJ3⟩⟩
      · gi_wp2
        go_wp2
        refine bodyPost_ret (results_none rfl _ _ _) rfl ?_
        refine ⟨⟨_, rfl⟩, .inr ⟨itemsB s j ++ [itemB s j], ?_, hJx3⟩⟩
        rw [← itemsB_succ]
        exact itemsB_prefix s (by omega)
    · have hjn : nz.toNat = j := by omega
      have hjz : ¬ (j : Int) < nz := by omega
      have HN := Aside0.mk hjn
      clear hjn
      go_wp2
      go_end0
      rw [HN.out]
      exact ⟨⟨_, rfl⟩, .inl ⟨⟨by rw [itemsB_len], by rw [itemsB_len]; exact HI.out, by rw [itemsB_len, HN.out]; exact Nat.le_refl _⟩, HJp.out⟩⟩
theorem args_calls (R : Nat) (n : Int) (w : World) :
    Calls Tryd.prog 69 #[.pointer (some ⟨R, 0, none⟩), .int .i64 n] w fun e w' =>
      e = .returned (.func (.func 72) #[] #[.pointer (some ⟨w.heap.size + 1, 0, none⟩), .pointer (some ⟨w.heap.size, 0, none⟩)]) ∧ w' = (w.alloc (.cells #[.pointer (some ⟨R, 0, none⟩)] 48)).alloc (.cells #[.int .i64 n] 3) := by
  go_enter Tryd.func69, Tryd.ntmps69
  go_wp2
  go_ret
  exact ⟨rfl, rfl⟩
theorem args_tells (s : ByteArray) (hs : s.size ≤ 100000) (R rb nb : Nat) (nz : Int) (hn : nz ≤ 1000) (h2 : 2 < R) (hr1 : rb ≠ R) (hr2 : nb ≠ R) (w : World) :
    SeqTells Fence.wide 6 Tryd.prog 72 #[.pointer (some ⟨nb, 0, none⟩), .pointer (some ⟨rb, 0, none⟩)] ienc (Keep72 R rb nb) (fun A B => World.grownBy A B (some R)) (T72 s R rb nb nz) (fun ys => ys = itemsB s nz.toNat) (fun pre => pre <+: itemsB s nz.toNat) w :=
  fun lp J Jx W _ hT hJ _ hY h0 => callsIn_wide.2 (it72_calls s hs R rb nb nz hn h2 hr1 hr2 lp J Jx hJ hY W hT h0)
end Go.Proofs.YtjcbbmjmhfimcaaDoor.P
