/- What the parser's walks share: blocks of memory, the package's variables, what strings.Cut answers. Conditions: each theorem names its own. -/
import Derived.Test.YtjcbbmjmhfimcaaDoorPA
import Derived.Test.YtjcbbmjmhfimcaaDoorPH2
import Derived.Test.YtjcbbmjmhfimcaaDoorShC
import Derived.Test.YtjcbbmjmhfimcaaDoorShF
import Derived.Test.YtjcbbmjmhfimcaaDoorRF
import Derived.Lib.CutLaws
import Derived.Lib.LaidTab
namespace Go.Proofs.YtjcbbmjmhfimcaaDoor.P
open Go.RowKit Go.Lib Go.Proofs.YtjcbbmjmhfimcaaDoorW.PrintWords Go.Proofs.YtjcbbmjmhfimcaaDoorW.PrintLast Go.Proofs.YtjcbbmjmhfimcaaDoorW.PrintMore

/-- A block of cells that can be written. -/
def Blk (W : World) (B : Nat) (T : TypeId) (cs : Array Value) : Prop := W.heap[B]? = some (.cells cs T (0, 0))
section
variable {W W' : World} {B : Nat} {T : TypeId} {cs : Array Value}
theorem Blk.lt (h : Blk W B T cs) : B < W.heap.size := (Array.getElem?_eq_some_iff.1 h).1
theorem Blk.below (h : Blk W B T cs) (hb : Below W.heap.size W W') : Blk W' B T cs := (hb.block B h.lt).trans h
theorem Blk.grown (h : Blk W B T cs) {row : Option Nat} (hg : W.grownBy W' row) (hne : some B ≠ row) : Blk W' B T cs := (hg.block B h.lt hne).trans h
theorem Blk.cell (h : Blk W B T cs) (j : Nat) : W.cell? ⟨B, j, none⟩ = cs[j]? := by simp [World.cell?, show W.heap[B]? = _ from h]
theorem Blk.frozen (h : Blk W B T cs) (j : Nat) : W.frozen? ⟨B, j, none⟩ = false := by simp [World.frozen?, show W.heap[B]? = _ from h]
theorem Blk.alloc (h : Blk W B T cs) (o : Obj) : Blk (W.alloc o) B T cs := h.below ((Below.refl _ _).alloc (Nat.le_refl _) _)
theorem Blk.new (W : World) (T : TypeId) (cs : Array Value) : Blk (W.alloc (.cells cs T)) W.heap.size T cs := World.alloc_heap_new W _
theorem Blk.set (h : Blk W B T cs) (j : Nat) (v : Value) : Blk (W.setCell ⟨B, j, none⟩ v) B T (cs.setIfInBounds j v) := by
  obtain ⟨hlt, hk⟩ := Array.getElem?_eq_some_iff.1 h
  show (W.heap.modify B _)[B]? = _
  rw [Array.getElem?_eq_getElem (by rw [Array.size_modify]; exact hlt), Array.getElem_modify_self, hk]
  rfl
theorem Blk.other (h : Blk W B T cs) {B' : Nat} (hne : B ≠ B') (j : Nat) (v : Value) : Blk (W.setCell ⟨B', j, none⟩ v) B T cs := (Below.heap_setCell W ⟨B', j, none⟩ v B hne).trans h
theorem Blk.drew (h : Blk W B T cs) : Blk W.drew B T cs := h
end
theorem grown_refl (w : World) (row : Option Nat) : w.grownBy w row := ⟨rfl, rfl, rfl, Nat.le_refl _, fun _ _ _ => rfl⟩
theorem grown_trans {a b c : World} {row : Option Nat} (h : a.grownBy b row) (k : b.grownBy c row) : a.grownBy c row :=
  ⟨k.os.trans h.os, k.tape.trans h.tape, k.output.trans h.output, Nat.le_trans h.size k.size, fun i hi hr => (k.block i (Nat.lt_of_lt_of_le hi h.size) hr).trans (h.block i hi hr)⟩
theorem grown_below {w w' : World} (h : Below w.heap.size w w') (row : Option Nat) : w.grownBy w' row := ⟨h.os, h.tape, h.output, h.size, fun k hk _ => h.block k hk⟩
theorem grown_set {w w' : World} {R : Nat} (h : w.grownBy w' (some R)) (j : Nat) (v : Value) : w.grownBy (w'.setCell ⟨R, j, none⟩ v) (some R) :=
  ⟨h.os, h.tape, h.output, by rw [World.size_setCell]; exact h.size, fun k hk hr => (Below.heap_setCell w' ⟨R, j, none⟩ v k (fun e => hr (by rw [e]))).trans (h.block k hk hr)⟩
/-- What is turned beyond a place leaves what is below it. -/
theorem below_grown {w a b : World} {R : Nat} (h : Below w.heap.size w a) (hg : a.grownBy b (some R)) (hR : w.heap.size ≤ R) : Below w.heap.size w b :=
  h.grown hg h.size (fun k e => by cases e; exact hR)
/-- The table of powers of ten. -/
def Tab (w : World) : Prop := Lib.TabIs Tryd.prog w "internal/strconv.uint64pow10" .u64 Lib.pow10Tab
theorem tab_global : Tryd.prog.globalNamed "internal/strconv.uint64pow10" = some 1 := by kernel_rfl
/-- The package's variables, as they lie. -/
structure G (w : World) : Prop where
  et : w.cell? ⟨0, 0, none⟩ = some (.iface 94 (.agg #[.pointer (some ⟨5, 58, none⟩)]))
  ml : ∃ m, w.cell? ⟨2, 0, none⟩ = some (.int .i64 m)
theorem lt_of_cell {w : World} {b o : Nat} {v : Value} (h : w.cell? ⟨b, o, none⟩ = some v) : b < w.heap.size := World.block_lt_of_cell? w _ h
theorem tab_lt {w : World} (h : Tab w) : 1 < w.heap.size := by
  unfold Tab Lib.TabIs World.var? at h
  rw [tab_global] at h
  simp only [Option.bind_some] at h
  rcases Nat.lt_or_ge 1 w.heap.size with h1 | h1
  · exact h1
  · rw [Array.getElem?_eq_none h1] at h
    cases h
theorem G.lt {w : World} (h : G w) : 2 < w.heap.size := by
  obtain ⟨m, hm⟩ := h.ml
  exact lt_of_cell hm
theorem G.grown {w w1 : World} (h : G w) {row : Option Nat} (hg : w.grownBy w1 row) (hr : ∀ r, row = some r → 2 < r) : G w1 := by
  have hl := h.lt
  have hb : ∀ k, k ≤ 2 → w1.heap[k]? = w.heap[k]? := fun k hk => hg.block k (by omega) (fun e => by have := hr k e.symm; omega)
  refine ⟨?_, ?_⟩
  · exact (World.cell?_of_block (a := ⟨0, 0, none⟩) (hb 0 (by omega))).trans h.et
  · obtain ⟨m, hm⟩ := h.ml
    exact ⟨m, (World.cell?_of_block (a := ⟨2, 0, none⟩) (hb 2 (by omega))).trans hm⟩
theorem G.below {w w1 : World} (h : G w) (hb : Below w.heap.size w w1) : G w1 := h.grown (grown_below hb none) (fun _ e => by cases e)
/-- Bytes, as a text. -/
def mk (l : List UInt8) : ByteArray := ⟨l.toArray⟩
theorem mk_toList (l : List UInt8) : (mk l).data.toList = l := rfl
theorem mk_of (s : ByteArray) : mk s.data.toList = s := mk_data s
theorem mk_size (l : List UInt8) : (mk l).size = l.length := by
  rw [size_eq, mk_toList]
theorem extract_mk (l : List UInt8) (a b : Nat) : (mk l).extract a b = mk ((l.drop a).take (b - a)) := extract_eq (mk l) a b
theorem drawn_below (w : World) (n : Nat) : Below w.heap.size w (w.drewN n) := pw_below_drewN (Below.refl _ _) n
theorem cut_hit (s sep : ByteArray) (hs : s.size ≤ 100000) (i : Nat) (h : indexB s sep = i) (w : World) (hg : G w) :
    Calls Tryd.prog 74 #[.string s, .string sep] w fun e w' => e = .returned (.tuple #[.string (s.extract 0 i), .string (s.extract (i + sep.size) s.size), .bool true]) ∧ Below w.heap.size w w' := by
  obtain ⟨m, hm⟩ := hg.ml
  refine (Tryd.strings_Cut s sep m w (by omega) hm).mono ?_
  rintro e w1 ⟨rfl, n, rfl⟩
  obtain ⟨h1, h2, h3⟩ := cutB_hit s sep i h
  exact ⟨by rw [h1, h2, h3], drawn_below w n⟩
theorem cut_miss (s sep : ByteArray) (hs : s.size ≤ 100000) (h : indexB s sep = -1) (w : World) (hg : G w) :
    Calls Tryd.prog 74 #[.string s, .string sep] w fun e w' => e = .returned (.tuple #[.string s, .string ByteArray.empty, .bool false]) ∧ Below w.heap.size w w' := by
  obtain ⟨m, hm⟩ := hg.ml
  refine (Tryd.strings_Cut s sep m w (by omega) hm).mono ?_
  rintro e w1 ⟨rfl, n, rfl⟩
  obtain ⟨h1, h2, h3⟩ := cutB_miss s sep h
  exact ⟨by rw [h1, h2, h3], drawn_below w n⟩
/-- What is wrong, as a value. -/
def erV (e : Int) : Value := if e = 0 then .nilIface else .iface 69 (.agg #[.int .i64 e])
theorem ints_parse_calls (s : ByteArray) (hs : s.size ≤ 100000) (w : World) :
    Calls Tryd.prog 75 #[.string s] w fun e w' => e = .returned (.tuple #[.int .i64 (if 0 < s.size ∧ bt s 0 = 45 then parseOf true (s.extract 1 s.size) else parseOf false s).1, .int .i64 (if 0 < s.size ∧ bt s 0 = 45 then parseOf true (s.extract 1 s.size) else parseOf false s).2]) ∧ Below w.heap.size w w' := by
  have h : ints_Parse.f s = some (if 0 < s.size ∧ bt s 0 = 45 then parseOf true (s.extract 1 s.size) else parseOf false s) := by
    unfold ints_Parse.f
    rw [if_pos (by omega)]
  exact ints_Parse.calls _ _ _ _ h
end Go.Proofs.YtjcbbmjmhfimcaaDoor.P
