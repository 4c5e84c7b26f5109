/- What the command reader's walks share: blocks of memory, a command as it is put together, how the reader lies in memory. Conditions: each theorem names its own. -/
import Derived.Test.YtegmbgjolnbgpaaDoorPx0
import Derived.Outline
import Derived.WalkSpells
import Derived.Lib.Hide
import Derived.OwnWalkIn
import Derived.TacticsInMore
import Derived.LoopNIn
import Derived.LoopIn
import Derived.WalkMore
import Derived.Laws.EntriesVeiled
import Derived.StillTailTactics
import Derived.Shelf.RegionOpen
import Derived.RangeFuncNested
namespace Go.Proofs.YtegmbgjolnbgpaaDoor.P
open Go.RowKit Go.Proofs.YtegmbgjolnbgpaaDoorW.PrintWords Go.Proofs.YtegmbgjolnbgpaaDoorW.PrintLast Go.Proofs.YtegmbgjolnbgpaaDoorW.PrintMore

/-- A block of cells that can be written. -/
def Blk (W : World) (B : Nat) (T : TypeId) (cs : Array Value) : Prop := W.heap[B]? = some (.cells cs T (0, 0))
section
variable {W W' : World} {B : Nat} {T : TypeId} {cs : Array Value}
theorem Blk.lt (h : Blk W B T cs) : B < W.heap.size := (Array.getElem?_eq_some_iff.1 h).1
theorem Blk.below (h : Blk W B T cs) (hb : Below W.heap.size W W') : Blk W' B T cs := (hb.block B h.lt).trans h
theorem Blk.grown (h : Blk W B T cs) {row : Option Nat} (hg : W.grownBy W' row) (hne : some B ≠ row) : Blk W' B T cs := (hg.block B h.lt hne).trans h
theorem Blk.cell (h : Blk W B T cs) (j : Nat) : W.cell? ⟨B, j, none⟩ = cs[j]? := by simp [World.cell?, show W.heap[B]? = _ from h]
theorem Blk.frozen (h : Blk W B T cs) (j : Nat) : W.frozen? ⟨B, j, none⟩ = false := by simp [World.frozen?, show W.heap[B]? = _ from h]
theorem Blk.alloc (h : Blk W B T cs) (o : Obj) : Blk (W.alloc o) B T cs := h.below ((Below.refl _ _).alloc (Nat.le_refl _) _)
theorem Blk.new (W : World) (T : TypeId) (cs : Array Value) : Blk (W.alloc (.cells cs T)) W.heap.size T cs := World.alloc_heap_new W _
theorem Blk.set (h : Blk W B T cs) (j : Nat) (v : Value) : Blk (W.setCell ⟨B, j, none⟩ v) B T (cs.setIfInBounds j v) := by
  obtain ⟨hlt, hk⟩ := Array.getElem?_eq_some_iff.1 h
  show (W.heap.modify B _)[B]? = _
  rw [Array.getElem?_eq_getElem (by rw [Array.size_modify]; exact hlt), Array.getElem_modify_self, hk]
  rfl
theorem Blk.other (h : Blk W B T cs) {B' : Nat} (hne : B ≠ B') (j : Nat) (v : Value) : Blk (W.setCell ⟨B', j, none⟩ v) B T cs := (Below.heap_setCell W ⟨B', j, none⟩ v B hne).trans h
theorem Blk.drew (h : Blk W B T cs) : Blk W.drew B T cs := h
end
theorem grown_refl (w : World) (row : Option Nat) : w.grownBy w row := ⟨rfl, rfl, rfl, Nat.le_refl _, fun _ _ _ => rfl⟩
theorem grown_trans {a b c : World} {row : Option Nat} (h : a.grownBy b row) (k : b.grownBy c row) : a.grownBy c row :=
  ⟨k.os.trans h.os, k.tape.trans h.tape, k.output.trans h.output, Nat.le_trans h.size k.size, fun i hi hr => (k.block i (Nat.lt_of_lt_of_le hi h.size) hr).trans (h.block i hi hr)⟩
theorem grown_below {w w' : World} (h : Below w.heap.size w w') (row : Option Nat) : w.grownBy w' row := ⟨h.os, h.tape, h.output, h.size, fun k hk _ => h.block k hk⟩
theorem grown_set {w w' : World} {R : Nat} (h : w.grownBy w' (some R)) (j : Nat) (v : Value) : w.grownBy (w'.setCell ⟨R, j, none⟩ v) (some R) :=
  ⟨h.os, h.tape, h.output, by rw [World.size_setCell]; exact h.size, fun k hk hr => (Below.heap_setCell w' ⟨R, j, none⟩ v k (fun e => hr (by rw [e]))).trans (h.block k hk hr)⟩
/-- What is turned beyond a place leaves what is below it. -/
theorem below_grown {w a b : World} {m R : Nat} (h : Below m w a) (hm : m ≤ a.heap.size) (hg : a.grownBy b (some R)) (hR : m ≤ R) : Below m w b :=
  h.grown hg hm (fun k e => by cases e; exact hR)
theorem lt_of_cell {w : World} {b o : Nat} {v : Value} (h : w.cell? ⟨b, o, none⟩ = some v) : b < w.heap.size := World.block_lt_of_cell? w _ h
/-- Bytes, as a text. -/
def mk (l : List UInt8) : ByteArray := ⟨l.toArray⟩
theorem mk_toList (l : List UInt8) : (mk l).data.toList = l := rfl
theorem mk_of (s : ByteArray) : mk s.data.toList = s := rfl

/-- Flags, ends of scores, ends of members. -/
structure Fl where
  nx : Bool
  xx : Bool
  gt : Bool
  lt : Bool
  ch : Bool
  incr : Bool
structure Bd where
  n : Int
  out : Bool
  inf : Int
structure Ed where
  s : ByteArray
  out : Bool
  inf : Int
/-- A command. -/
structure Cm where
  name : ByteArray
  keys : List ByteArray
  ents : List S43
  fl : Fl
  fr : Bd
  tt : Bd
  lo : Ed
  hi : Ed
  n : Int
  m : Int
  cur : Int
  pat : ByteArray
  sc : Bool
  tu : Bool
  agg : Int
  ws : List Int
def zFl : Fl := ⟨false, false, false, false, false, false⟩
def zBd : Bd := ⟨0, false, 0⟩
def zEd : Ed := ⟨⟨#[]⟩, false, 0⟩
/-- The command that is nothing yet. -/
def zCm : Cm := ⟨⟨#[]⟩, [], [], zFl, zBd, zBd, zEd, zEd, 0, 0, 0, ⟨#[]⟩, false, false, 0, []⟩
/-- Its cells, and the reader's. -/
def cmCells (c : Cm) (vk ve vw : Value) : Array Value :=
  #[.string c.name, vk, ve, .bool c.fl.nx, .bool c.fl.xx, .bool c.fl.gt, .bool c.fl.lt, .bool c.fl.ch, .bool c.fl.incr, .int .i64 c.fr.n, .bool c.fr.out, .int .i64 c.fr.inf, .int .i64 c.tt.n, .bool c.tt.out, .int .i64 c.tt.inf,
    .string c.lo.s, .bool c.lo.out, .int .i64 c.lo.inf, .string c.hi.s, .bool c.hi.out, .int .i64 c.hi.inf, .int .i64 c.n, .int .i64 c.m, .int .u32 c.cur, .string c.pat, .bool c.sc, .bool c.tu, .int .i64 c.agg, vw]
def rdCells (c : Cm) (vk ve vw vl : Value) : Array Value :=
  #[.string c.name, vk, ve, .bool c.fl.nx, .bool c.fl.xx, .bool c.fl.gt, .bool c.fl.lt, .bool c.fl.ch, .bool c.fl.incr, .int .i64 c.fr.n, .bool c.fr.out, .int .i64 c.fr.inf, .int .i64 c.tt.n, .bool c.tt.out, .int .i64 c.tt.inf,
    .string c.lo.s, .bool c.lo.out, .int .i64 c.lo.inf, .string c.hi.s, .bool c.hi.out, .int .i64 c.hi.inf, .int .i64 c.n, .int .i64 c.m, .int .u32 c.cur, .string c.pat, .bool c.sc, .bool c.tu, .int .i64 c.agg, vw, vl]
/-- A row of texts, of entries, of numbers that was made from a place on. -/
def RK (w : World) (m : Nat) (v : Value) (l : List ByteArray) : Prop := Kd.R Kd.string 9 w m (fun _ => True) v l
def RE (w : World) (m : Nat) (v : Value) (l : List S43) : Prop := Kd.R k43 43 w m (fun _ => True) v l
def RW (w : World) (m : Nat) (v : Value) (l : List Int) : Prop := Kd.R (Kd.int .i64) 2 w m (fun _ => True) v l
/-- The reader at block b, made since w0, with the command c so far; l is left. -/
structure Rd (w0 w : World) (b : Nat) (c : Cm) (l : List ByteArray) : Prop where
  bel : Below w0.heap.size w0 w
  ge : w0.heap.size ≤ b
  ok : ∀ x ∈ l, x.size ≤ 1000
  few : l.length + c.keys.length ≤ 500 ∧ l.length + c.ents.length ≤ 500 ∧ c.ws.length ≤ 500
  ex : ∃ vk ve vw A n, Blk w b 51 (rdCells c vk ve vw (.slice A l.length n)) ∧ l.length ≤ n ∧ Kd.C Kd.string w0 A l.length l ∧ RK w w0.heap.size vk c.keys ∧ RE w w0.heap.size ve c.ents ∧ RW w w0.heap.size vw c.ws
theorem RK.below {w w' : World} {m : Nat} {v : Value} {l : List ByteArray} (h : RK w m v l) (hb : Below w.heap.size w w') : RK w' m v l := Kd.R_below h hb
theorem RE.below {w w' : World} {m : Nat} {v : Value} {l : List S43} (h : RE w m v l) (hb : Below w.heap.size w w') : RE w' m v l := Kd.R_below h hb
theorem RW.below {w w' : World} {m : Nat} {v : Value} {l : List Int} (h : RW w m v l) (hb : Below w.heap.size w w') : RW w' m v l := Kd.R_below h hb
theorem RK.set {w : World} {m b T : Nat} {cs : Array Value} {v : Value} {l : List ByteArray} (h : RK w m v l) (hb : Blk w b T cs) (hT : T ≠ 9) (j : Nat) (u : Value) : RK (w.setCell ⟨b, j, none⟩ u) m v l := Kd.R_set h hb (fun q hq => by rcases List.mem_singleton.1 hq with rfl; exact hT.symm) j u
theorem RE.set {w : World} {m b T : Nat} {cs : Array Value} {v : Value} {l : List S43} (h : RE w m v l) (hb : Blk w b T cs) (hT : T ≠ 43) (j : Nat) (u : Value) : RE (w.setCell ⟨b, j, none⟩ u) m v l := Kd.R_set h hb (fun q hq => by rcases List.mem_singleton.1 hq with rfl; exact hT.symm) j u
theorem RW.set {w : World} {m b T : Nat} {cs : Array Value} {v : Value} {l : List Int} (h : RW w m v l) (hb : Blk w b T cs) (hT : T ≠ 2) (j : Nat) (u : Value) : RW (w.setCell ⟨b, j, none⟩ u) m v l := Kd.R_set h hb (fun q hq => by rcases List.mem_singleton.1 hq with rfl; exact hT.symm) j u
section
variable {w0 w w' : World} {b : Nat} {c : Cm} {l : List ByteArray}
theorem Rd.lt (h : Rd w0 w b c l) : b < w.heap.size := by
  obtain ⟨vk, ve, vw, A, n, hB, _⟩ := h.ex
  exact hB.lt
theorem Rd.size (h : Rd w0 w b c l) : w0.heap.size ≤ w.heap.size := h.bel.size
theorem Rd.below (h : Rd w0 w b c l) (hb : Below w.heap.size w w') : Rd w0 w' b c l := by
  obtain ⟨h1, h2, h3, h4, vk, ve, vw, A, n, hB, hn, hC, hK, hE, hW⟩ := h
  exact ⟨h1.trans (hb.mono h1.size), h2, h3, h4, vk, ve, vw, A, n, hB.below hb, hn, hC, hK.below hb, hE.below hb, hW.below hb⟩
theorem Rd.alloc (h : Rd w0 w b c l) (o : Obj) : Rd w0 (w.alloc o) b c l := h.below ((Below.refl _ _).alloc (Nat.le_refl _) _)
/-- Another block (that is no row and not the reader) has been written. -/
theorem Rd.other (h : Rd w0 w b c l) {B T : Nat} {cs : Array Value} (hB : Blk w B T cs) (hge : w0.heap.size ≤ B) (hne : b ≠ B) (h1 : T ≠ 9) (h2 : T ≠ 43) (h3 : T ≠ 2) (j : Nat) (u : Value) : Rd w0 (w.setCell ⟨B, j, none⟩ u) b c l := by
  obtain ⟨k1, k2, k3, k4, vk, ve, vw, A, n, hBl, hn, hC, hK, hE, hW⟩ := h
  exact ⟨k1.setCell (p := ⟨B, j, none⟩) hge u, k2, k3, k4, vk, ve, vw, A, n, hBl.other hne j u, hn, hC, hK.set hB h1 j u, hE.set hB h2 j u, hW.set hB h3 j u⟩
/-- A field has been written: what the reader's cells are then. -/
theorem Rd.put (h : Rd w0 w b c l) {c' : Cm} (j : Nat) (u : Value) (hk : c'.keys = c.keys) (he : c'.ents = c.ents) (hw : c'.ws = c.ws) (hc : ∀ vk ve vw vl, (rdCells c vk ve vw vl).setIfInBounds j u = rdCells c' vk ve vw vl) : Rd w0 (w.setCell ⟨b, j, none⟩ u) b c' l := by
  obtain ⟨k1, k2, k3, k4, vk, ve, vw, A, n, hB, hn, hC, hK, hE, hW⟩ := h
  refine ⟨k1.setCell (p := ⟨b, j, none⟩) k2 u, k2, k3, by rw [hk, he, hw]; exact k4, vk, ve, vw, A, n, ?_, hn, hC, ?_, ?_, ?_⟩
  · have := hB.set j u
    rw [hc] at this
    exact this
  · rw [hk]; exact hK.set hB (by decide) j u
  · rw [he]; exact hE.set hB (by decide) j u
  · rw [hw]; exact hW.set hB (by decide) j u
/-- What is left has been cut. -/
theorem Rd.cut (h : Rd w0 w b c l) {l' : List ByteArray} {A' : Option Addr} {n' : Nat} (hn : l'.length ≤ n') (hl : l'.length ≤ l.length) (hm : ∀ x ∈ l', x ∈ l) (hC : Kd.C Kd.string w0 A' l'.length l') : Rd w0 (w.setCell ⟨b, 29, none⟩ (.slice A' l'.length n')) b c l' := by
  obtain ⟨k1, k2, k3, k4, vk, ve, vw, A, n, hB, _, _, hK, hE, hW⟩ := h
  refine ⟨k1.setCell (p := ⟨b, 29, none⟩) k2 _, k2, fun x hx => k3 x (hm x hx), by omega, vk, ve, vw, A', n', ?_, hn, hC, ?_, ?_, ?_⟩
  · exact hB.set 29 _
  · exact hK.set hB (by decide) 29 _
  · exact hE.set hB (by decide) 29 _
  · exact hW.set hB (by decide) 29 _
theorem Rd.frozen (h : Rd w0 w b c l) (j : Nat) : w.frozen? ⟨b, j, none⟩ = false := by
  obtain ⟨vk, ve, vw, A, n, hB, _⟩ := h.ex
  exact hB.frozen j
/-- A text of what is left, read. -/
theorem C_str {w : World} {A : Option Addr} {l : List ByteArray} (h : Kd.C Kd.string w A l.length l) (i : Nat) (hi : i < l.length) : ∃ ad, A = some ad ∧ w.cell? (ad.add i) = some (.string (l[i]'hi)) := by
  obtain ⟨ad, cs, h1, h2, h3, h4⟩ := Kd.C_get h ByteArray.empty (i : Int) (by omega) (by omega)
  have h5 : cs = [.string ((l.getD i ByteArray.empty))] := h3
  subst h5
  refine ⟨ad, h1, ?_⟩
  have := h4 0 _ rfl
  rw [Int.toNat_natCast, List.getD_eq_getElem?_getD, List.getElem?_eq_getElem hi] at this
  simpa [show Kd.string.sz = 1 from rfl] using this
theorem C_str_lt {w : World} {A : Addr} {l : List ByteArray} (h : Kd.C Kd.string w (some A) l.length l) (i : Nat) (hi : i < l.length) : A.block < w.heap.size := by
  obtain ⟨ad, h1, h2⟩ := C_str h i hi
  cases h1
  have := World.block_lt_of_cell? w _ h2
  rwa [add_block] at this
end
/-- A refusal, as a value; none: nil. -/
def refV (e : Int) : Value := if e = 0 then .nilIface else .iface 74 (.agg #[.int .i64 e])
theorem refV_ne {e : Int} (h : e ≠ 0) : refV e = .iface 74 (.agg #[.int .i64 e]) := if_neg h
end Go.Proofs.YtegmbgjolnbgpaaDoor.P
