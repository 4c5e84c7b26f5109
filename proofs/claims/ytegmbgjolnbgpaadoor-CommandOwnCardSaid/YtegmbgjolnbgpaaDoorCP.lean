/- What an append to the reader's keys, to its entries, to its weights leaves. Conditions: each theorem names its own. -/
import Derived.Test.YtegmbgjolnbgpaaDoorCC
namespace Go.Proofs.YtegmbgjolnbgpaaDoor.P
open Go.RowKit Go.Shelf Go.Proofs.YtegmbgjolnbgpaaDoorW.PrintWords Go.Proofs.YtegmbgjolnbgpaaDoorW.PrintLast Go.Proofs.YtegmbgjolnbgpaaDoorW.PrintMore Go.Proofs.YtegmbgjolnbgpaaDoor.RF

theorem infoEnt : (Tryd.prog.info? 43).map (fun i => (i.zero, i.size, i.bytes)) = some (some (.agg #[.string ⟨#[]⟩, .int .i64 0]), 2, 24) := by kernel_rfl
theorem infoI64 : (Tryd.prog.info? 2).map (fun i => (i.zero, i.size, i.bytes)) = some (some (.int .i64 0), 1, 8) := by kernel_rfl
/-- The command with more keys, more entries, more weights. -/
def Cm.addK (c : Cm) (ks : List ByteArray) : Cm := { c with keys := c.keys ++ ks }
def Cm.addE (c : Cm) (es : List S43) : Cm := { c with ents := c.ents ++ es }
def Cm.addW (c : Cm) (ws : List Int) : Cm := { c with ws := c.ws ++ ws }
theorem Cm.addK_nil (c : Cm) : c.addK [] = c := by unfold Cm.addK; rw [List.append_nil]
theorem Cm.addE_nil (c : Cm) : c.addE [] = c := by unfold Cm.addE; rw [List.append_nil]
theorem Cm.addW_nil (c : Cm) : c.addW [] = c := by unfold Cm.addW; rw [List.append_nil]
theorem Cm.addK_addK (c : Cm) (ks ls : List ByteArray) : (c.addK ks).addK ls = c.addK (ks ++ ls) := by unfold Cm.addK; rw [List.append_assoc]
theorem Cm.addE_addE (c : Cm) (ks ls : List S43) : (c.addE ks).addE ls = c.addE (ks ++ ls) := by unfold Cm.addE; rw [List.append_assoc]
theorem Cm.addW_addW (c : Cm) (ks ls : List Int) : (c.addW ks).addW ls = c.addW (ks ++ ls) := by unfold Cm.addW; rw [List.append_assoc]
/-- The reader with its slices' values. -/
structure Rdx (w0 w : World) (b : Nat) (c : Cm) (l : List ByteArray) (vk ve vw : Value) (A : Option Addr) (n : Nat) : Prop where
  bel : Below w0.heap.size w0 w
  ge : w0.heap.size ≤ b
  ok : ∀ x ∈ l, x.size ≤ 1000
  few : l.length + c.keys.length ≤ 500 ∧ l.length + c.ents.length ≤ 500 ∧ c.ws.length ≤ 500
  blk : Blk w b 51 (rdCells c vk ve vw (.slice A l.length n))
  cap : l.length ≤ n
  C : Kd.C Kd.string w0 A l.length l
  K : RK w w0.heap.size vk c.keys
  E : RE w w0.heap.size ve c.ents
  W : RW w w0.heap.size vw c.ws
section
variable {w0 w w' : World} {b : Nat} {c : Cm} {l : List ByteArray} {vk ve vw : Value} {A : Option Addr} {n : Nat}
theorem Rd.open_ (h : Rd w0 w b c l) : ∃ vk ve vw A n, Rdx w0 w b c l vk ve vw A n := by
  obtain ⟨k1, k2, k3, k4, vk, ve, vw, A, n, hB, hn, hC, hK, hE, hW⟩ := h
  exact ⟨vk, ve, vw, A, n, k1, k2, k3, k4, hB, hn, hC, hK, hE, hW⟩
theorem Rdx.rd (h : Rdx w0 w b c l vk ve vw A n) : Rd w0 w b c l := ⟨h.bel, h.ge, h.ok, h.few, vk, ve, vw, A, n, h.blk, h.cap, h.C, h.K, h.E, h.W⟩
theorem Rdx.below (h : Rdx w0 w b c l vk ve vw A n) (hb : Below w.heap.size w w') : Rdx w0 w' b c l vk ve vw A n :=
  ⟨h.bel.trans (hb.mono h.bel.size), h.ge, h.ok, h.few, h.blk.below hb, h.cap, h.C, h.K.below hb, h.E.below hb, h.W.below hb⟩
theorem R_at {α : Type} {d : Kd α} {e : Nat} {w : World} {m : Nat} {ok : Nat → Prop} {v : Value} {xs : List α} (h : Kd.R d e w m ok v xs) : ∀ k, v.ownBlock = some k → m ≤ k := by
  obtain ⟨inner, ho⟩ := Kd.R_own h
  exact fun k hk => own_base ho k hk
theorem R_cellsOf {α : Type} {d : Kd α} {e : Nat} {w : World} {m : Nat} {ok : Nat → Prop} {v : Value} {xs : List α} (h : Kd.R d e w m ok v xs) (j : Nat) (o : Obj) (hj : v.ownBlock = some j) (ho : w.heap[j]? = some o) : o.isCells = true := by
  obtain ⟨cells, hc⟩ := Kd.R_typed h j hj
  rw [ho] at hc
  cases hc
  rfl
theorem one_ne {q t : Nat} (hne : q ≠ t) (x : Nat) (hx : x ∈ [q]) : x ≠ t := by
  rcases List.mem_singleton.1 hx with rfl
  exact hne
/-- A key has been appended. -/
theorem Rdx.pushK (h : Rdx w0 w b c l vk ve vw A n) (hg : w.grownBy w' vk.ownBlock) {v1 : Value} {p : ByteArray} (hR : RK w' w0.heap.size v1 (c.keys ++ [p])) (hf : l.length + (c.keys.length + 1) ≤ 500) :
    Rd w0 (w'.setCell ⟨b, 1, none⟩ v1) b (c.addK [p]) l ∧ KeepsOthers w (w'.setCell ⟨b, 1, none⟩ v1) ∧ (∀ B T cs, Blk w B T cs → T ≠ 9 → Blk w' B T cs) ∧ (∀ B T cs, Blk w B T cs → B ≠ b → T ≠ 9 → Blk (w'.setCell ⟨b, 1, none⟩ v1) B T cs) := by
  have hty := Kd.R_typed h.K
  have hm := R_at h.K
  have keep : ∀ B T cs, Blk w B T cs → T ≠ 9 → Blk w' B T cs := fun B T cs hB hT => hB.grown hg (Kd.R_ne h.K hB (Ne.symm hT))
  have hb := keep b _ _ h.blk (by decide)
  have hE : RE w' w0.heap.size ve c.ents := Kd.R_over' h.E hty (one_ne (by decide)) hg
  have hW : RW w' w0.heap.size vw c.ws := Kd.R_over' h.W hty (one_ne (by decide)) hg
  refine ⟨⟨(h.bel.grown hg h.bel.size hm).setCell (p := ⟨b, 1, none⟩) h.ge _, h.ge, h.ok, ⟨?_, h.few.2⟩, v1, ve, vw, A, n, hb.set 1 v1, h.cap, h.C, hR.set hb (by decide) 1 v1, hE.set hb (by decide) 1 v1, hW.set hb (by decide) 1 v1⟩, ?_, keep, fun B T cs hB hne hT => (keep B T cs hB hT).other hne 1 v1⟩
  · show l.length + (c.keys ++ [p]).length ≤ 500
    rw [List.length_append]
    exact hf
  · exact (KeepsOthers.of_grownBy hg (fun j o hj ho => R_cellsOf h.K j o hj ho)).trans (KeepsOthers.setCell _ _ _)
/-- An entry has been appended. -/
theorem Rdx.pushE (h : Rdx w0 w b c l vk ve vw A n) (hg : w.grownBy w' ve.ownBlock) {v1 : Value} {p : S43} (hR : RE w' w0.heap.size v1 (c.ents ++ [p])) (hf : l.length + (c.ents.length + 1) ≤ 500) :
    Rd w0 (w'.setCell ⟨b, 2, none⟩ v1) b (c.addE [p]) l ∧ KeepsOthers w (w'.setCell ⟨b, 2, none⟩ v1) ∧ (∀ B T cs, Blk w B T cs → T ≠ 43 → Blk w' B T cs) ∧ (∀ B T cs, Blk w B T cs → B ≠ b → T ≠ 43 → Blk (w'.setCell ⟨b, 2, none⟩ v1) B T cs) := by
  have hty := Kd.R_typed h.E
  have hm := R_at h.E
  have keep : ∀ B T cs, Blk w B T cs → T ≠ 43 → Blk w' B T cs := fun B T cs hB hT => hB.grown hg (Kd.R_ne h.E hB (Ne.symm hT))
  have hb := keep b _ _ h.blk (by decide)
  have hK : RK w' w0.heap.size vk c.keys := Kd.R_over' h.K hty (one_ne (by decide)) hg
  have hW : RW w' w0.heap.size vw c.ws := Kd.R_over' h.W hty (one_ne (by decide)) hg
  refine ⟨⟨(h.bel.grown hg h.bel.size hm).setCell (p := ⟨b, 2, none⟩) h.ge _, h.ge, h.ok, ⟨h.few.1, ?_, h.few.2.2⟩, vk, v1, vw, A, n, hb.set 2 v1, h.cap, h.C, hK.set hb (by decide) 2 v1, hR.set hb (by decide) 2 v1, hW.set hb (by decide) 2 v1⟩, ?_, keep, fun B T cs hB hne hT => (keep B T cs hB hT).other hne 2 v1⟩
  · show l.length + (c.ents ++ [p]).length ≤ 500
    rw [List.length_append]
    exact hf
  · exact (KeepsOthers.of_grownBy hg (fun j o hj ho => R_cellsOf h.E j o hj ho)).trans (KeepsOthers.setCell _ _ _)
/-- A weight has been appended. -/
theorem Rdx.pushW (h : Rdx w0 w b c l vk ve vw A n) (hg : w.grownBy w' vw.ownBlock) {v1 : Value} {p : Int} (hR : RW w' w0.heap.size v1 (c.ws ++ [p])) (hf : c.ws.length + 1 ≤ 500) :
    Rd w0 (w'.setCell ⟨b, 28, none⟩ v1) b (c.addW [p]) l ∧ (∀ B T cs, Blk w B T cs → T ≠ 2 → Blk w' B T cs) := by
  have hty := Kd.R_typed h.W
  have hm := R_at h.W
  have keep : ∀ B T cs, Blk w B T cs → T ≠ 2 → Blk w' B T cs := fun B T cs hB hT => hB.grown hg (Kd.R_ne h.W hB (Ne.symm hT))
  have hb := keep b _ _ h.blk (by decide)
  have hK : RK w' w0.heap.size vk c.keys := Kd.R_over' h.K hty (one_ne (by decide)) hg
  have hE : RE w' w0.heap.size ve c.ents := Kd.R_over' h.E hty (one_ne (by decide)) hg
  refine ⟨⟨(h.bel.grown hg h.bel.size hm).setCell (p := ⟨b, 28, none⟩) h.ge _, h.ge, h.ok, ⟨h.few.1, h.few.2.1, ?_⟩, vk, ve, v1, A, n, hb.set 28 v1, h.cap, h.C, hK.set hb (by decide) 28 v1, hE.set hb (by decide) 28 v1, hR.set hb (by decide) 28 v1⟩, keep⟩
  show (c.ws ++ [p]).length ≤ 500
  rw [List.length_append]
  exact hf
end
/-- Whatever lies in blocks of other kinds lies as it did. -/
def Fr (b : Nat) (w w' : World) : Prop := ∀ B T cs, Blk w B T cs → B ≠ b → T ≠ 9 → T ≠ 43 → T ≠ 2 → Blk w' B T cs
theorem Fr.refl (b : Nat) (w : World) : Fr b w w := fun _ _ _ h _ _ _ _ => h
theorem Fr.trans {b : Nat} {u v w : World} (h : Fr b u v) (k : Fr b v w) : Fr b u w := fun B T cs hB h0 h1 h2 h3 => k B T cs (h B T cs hB h0 h1 h2 h3) h0 h1 h2 h3
theorem Fr.below {b : Nat} {w w' : World} (h : Below w.heap.size w w') : Fr b w w' := fun _ _ _ hB _ _ _ _ => hB.below h
theorem Fr.grown {b : Nat} {w w' : World} (h : w.grownBy w' (some b)) : Fr b w w' := fun _ _ _ hB h0 _ _ _ => hB.grown h (fun e => h0 (by cases e; rfl))
theorem Fr.own {b : Nat} {u w w' : World} {row : Option Nat} (h : Fr b u w) (hg : w.grownBy w' row) (hr : ∀ r, row = some r → ∃ o : Obj, w.heap[r]? = some o ∧ o.isCells = false) : Fr b u w' :=
  fun B T cs hB h0 h1 h2 h3 => box_own (h B T cs hB h0 h1 h2 h3) hg hr
section
variable {F : Fence} {n : Nat} {ops : Array Oper} {rest : List Oper} {o : Oper} {a : Act} {Q : Exit → Act → World → Prop}
theorem one_cell {W : World} {T : TypeId} {u : Value} (j : Nat) (v : Value) (hj : [u][j]? = some v) : (W.alloc (.cells #[u] T)).cell? ((⟨W.heap.size, 0, none⟩ : Addr).add j) = some v := by
  match j with
  | 0 =>
    simp at hj
    subst hj
    simp [Addr.add]
  | j + 1 => simp at hj
theorem two_cell {W : World} {T : TypeId} {u1 u2 : Value} (j : Nat) (v : Value) (hj : [u1, u2][j]? = some v) : (W.alloc (.cells #[u1, u2] T)).cell? ((⟨W.heap.size, 0, none⟩ : Addr).add j) = some v := by
  match j with
  | 0 =>
    simp at hj
    subst hj
    simp [Addr.add]
  | 1 =>
    simp at hj
    subst hj
    simp [Addr.add]
  | j + 2 => simp at hj
/-- append(keys, k) in a round: behind the slice of one that holds k. -/
theorem append_inK (W : World) (hg : o.guard = none) (x y : Operand) (ho : o.op = .call { callee := .builtin .append, args := #[x, y], argTypes := #[22, 22] })
    (m : Nat) (v : Value) (out : List ByteArray) (p : ByteArray) (hs : a.eval x = v) (hx : a.eval y = .slice (some ⟨W.heap.size, 0, none⟩) 1 1) (HO : RK W m v out) (hm : m ≤ W.heap.size) (hl : out.length ≤ 2000)
    (h : ∀ v1 w1, RK w1 m v1 (out ++ [p]) → (W.alloc (.cells #[.string p] 9)).grownBy w1 v.ownBlock → wpListIn F n Tryd.prog ops Q rest (a.put o.dst v1) w1) :
    wpListIn F n Tryd.prog ops Q (o :: rest) a (W.alloc (.cells #[.string p] 9)) := by
  obtain ⟨i0, hi, hz0, hz1, hz2⟩ := info_parts infoStr
  have hown2 : (W.alloc (.cells #[.string p] 9)).ownsRow m 9 1 v out.length (encs Value.string out) := (Kd.own_of_R HO).alloc _
  refine wpListIn_append_own _ hg x y 22 ho m 9 i0 (.string ⟨#[]⟩) 1 16 Tryd.underlying22 hi hz0 hz1 hz2 rfl (by decide) v out.length (encs Value.string out) hs hown2 ⟨W.heap.size, 0, none⟩ 1 1 [.string p] hx rfl (fun j u hj => one_cell j u hj) (by simp [Value.oneCell']) (by unfold maxLen; omega) (by omega) (by rw [World.size_alloc]; omega) ?_
  intro v' w' r1 r2 _
  refine h v' w' (Kd.R_of_own ?_ (fun _ _ => trivial)) r2
  have : encs Value.string (out ++ [p]) = encs Value.string out ++ [.string p] := by simp [encs]
  rw [this, List.length_append]
  exact r1
def cellsEnt (L : List S43) : List Value := L.flatMap fun e => [.string e.f0, .int .i64 e.f1]
theorem cellsEnt_snoc (L : List S43) (e : S43) : cellsEnt (L ++ [e]) = cellsEnt L ++ [.string e.f0, .int .i64 e.f1] := by simp [cellsEnt]
theorem RE_own {W : World} {m : Nat} {v : Value} {L : List S43} (h : RE W m v L) : W.ownsRow m 43 2 v L.length (cellsEnt L) := by
  obtain ⟨_, inner, ho, hr⟩ := h
  have e : inner = cellsEnt L := by
    have key : ∀ (L : List S43) (inner : List Value), Reps (k43.M W m (fun k => True ∧ some k ≠ v.ownBlock)) 2 L inner → inner = cellsEnt L := by
      intro L
      induction L with
      | nil =>
        intro inner hr
        exact List.length_eq_zero_iff.1 hr.1
      | cons x L ih =>
        intro inner hr
        have h0 := hr.2 0 x rfl
        rw [Nat.zero_mul, List.drop_zero] at h0
        have h1 := k43_openM h0
        have hl := hr.1
        have h2 : inner = inner.take 2 ++ inner.drop 2 := (List.take_append_drop 2 inner).symm
        have h3 : inner.drop 2 = cellsEnt L := ih _ ⟨by rw [List.length_drop, hl, List.length_cons]; omega, fun j p hj => by
          have := hr.2 (j + 1) p (by simpa using hj)
          rw [List.drop_drop, show 2 + j * 2 = (j + 1) * 2 by omega]
          exact this⟩
        rw [h2, h1, h3]
        rfl
    exact key L inner hr
  rw [← e]
  exact ho
theorem reps_ent (W : World) (m : Nat) (ok : Nat → Prop) : ∀ L : List S43, Reps (k43.M W m ok) 2 L (cellsEnt L)
  | [] => Reps.none _ _
  | e :: L => Kd.reps_append ((Reps.none (k43.M W m ok) 2).snoc (k43_mkM W m ok e) rfl) (reps_ent W m ok L)
theorem RE_of_own {W : World} {m : Nat} {v : Value} {L : List S43} (h : W.ownsRow m 43 2 v L.length (cellsEnt L)) : RE W m v L := ⟨fun _ _ => trivial, cellsEnt L, h, reps_ent W m _ L⟩
theorem append_inE (W : World) (hg : o.guard = none) (x y : Operand) (ho : o.op = .call { callee := .builtin .append, args := #[x, y], argTypes := #[25, 25] })
    (m : Nat) (v : Value) (out : List S43) (p : S43) (hs : a.eval x = v) (hx : a.eval y = .slice (some ⟨W.heap.size, 0, none⟩) 1 1) (HO : RE W m v out) (hm : m ≤ W.heap.size) (hl : out.length ≤ 2000)
    (h : ∀ v1 w1, RE w1 m v1 (out ++ [p]) → (W.alloc (.cells #[.string p.f0, .int .i64 p.f1] 43)).grownBy w1 v.ownBlock → wpListIn F n Tryd.prog ops Q rest (a.put o.dst v1) w1) :
    wpListIn F n Tryd.prog ops Q (o :: rest) a (W.alloc (.cells #[.string p.f0, .int .i64 p.f1] 43)) := by
  obtain ⟨i0, hi, hz0, hz1, hz2⟩ := info_parts infoEnt
  have hown2 := World.ownsRow.alloc (RE_own HO) (.cells #[.string p.f0, .int .i64 p.f1] 43)
  refine wpListIn_append_own _ hg x y 25 ho m 43 i0 _ 2 24 Tryd.underlying25 hi hz0 hz1 hz2 rfl (by decide) v out.length (cellsEnt out) hs hown2 ⟨W.heap.size, 0, none⟩ 1 1 [.string p.f0, .int .i64 p.f1] hx rfl (fun j u hj => two_cell j u hj) (by simp [Value.oneCell']) (by unfold maxLen; omega) (by omega) (by rw [World.size_alloc]; omega) ?_
  intro v' w' r1 r2 _
  refine h v' w' (RE_of_own ?_) r2
  rw [cellsEnt_snoc, List.length_append]
  exact r1
theorem append_E (W : World) (hg : o.guard = none) (x y : Operand) (ho : o.op = .call { callee := .builtin .append, args := #[x, y], argTypes := #[25, 25] })
    (m : Nat) (v : Value) (out : List S43) (p : S43) (hs : a.eval x = v) (hx : a.eval y = .slice (some ⟨W.heap.size, 0, none⟩) 1 1) (HO : RE W m v out) (hm : m ≤ W.heap.size) (hl : out.length ≤ 2000)
    (h : ∀ v1 w1, RE w1 m v1 (out ++ [p]) → (W.alloc (.cells #[.string p.f0, .int .i64 p.f1] 43)).grownBy w1 v.ownBlock → wpList Tryd.prog ops Q rest (a.put o.dst v1) w1) :
    wpList Tryd.prog ops Q (o :: rest) a (W.alloc (.cells #[.string p.f0, .int .i64 p.f1] 43)) := by
  obtain ⟨i0, hi, hz0, hz1, hz2⟩ := info_parts infoEnt
  have hown2 := World.ownsRow.alloc (RE_own HO) (.cells #[.string p.f0, .int .i64 p.f1] 43)
  refine wpList_append_own _ hg x y 25 ho m 43 i0 _ 2 24 Tryd.underlying25 hi hz0 hz1 hz2 rfl (by decide) v out.length (cellsEnt out) hs hown2 ⟨W.heap.size, 0, none⟩ 1 1 [.string p.f0, .int .i64 p.f1] hx rfl (fun j u hj => two_cell j u hj) (by simp [Value.oneCell']) (by unfold maxLen; omega) (by omega) (by rw [World.size_alloc]; omega) ?_
  intro v' w' r1 r2 _
  refine h v' w' (RE_of_own ?_) r2
  rw [cellsEnt_snoc, List.length_append]
  exact r1
theorem append_W (W : World) (hg : o.guard = none) (x y : Operand) (ho : o.op = .call { callee := .builtin .append, args := #[x, y], argTypes := #[33, 33] })
    (m : Nat) (v : Value) (out : List Int) (p : Int) (hs : a.eval x = v) (hx : a.eval y = .slice (some ⟨W.heap.size, 0, none⟩) 1 1) (HO : RW W m v out) (hm : m ≤ W.heap.size) (hl : out.length ≤ 2000)
    (h : ∀ v1 w1, RW w1 m v1 (out ++ [p]) → (W.alloc (.cells #[.int .i64 p] 2)).grownBy w1 v.ownBlock → wpList Tryd.prog ops Q rest (a.put o.dst v1) w1) :
    wpList Tryd.prog ops Q (o :: rest) a (W.alloc (.cells #[.int .i64 p] 2)) := by
  obtain ⟨i0, hi, hz0, hz1, hz2⟩ := info_parts infoI64
  have hown2 : (W.alloc (.cells #[.int .i64 p] 2)).ownsRow m 2 1 v out.length (encs (Value.int .i64) out) := (Kd.own_of_R HO).alloc _
  refine wpList_append_own _ hg x y 33 ho m 2 i0 (.int .i64 0) 1 8 Tryd.underlying33 hi hz0 hz1 hz2 rfl (by decide) v out.length (encs (Value.int .i64) out) hs hown2 ⟨W.heap.size, 0, none⟩ 1 1 [.int .i64 p] hx rfl (fun j u hj => one_cell j u hj) (by simp [Value.oneCell']) (by unfold maxLen; omega) (by omega) (by rw [World.size_alloc]; omega) ?_
  intro v' w' r1 r2 _
  refine h v' w' (Kd.R_of_own ?_ (fun _ _ => trivial)) r2
  have : encs (Value.int .i64) (out ++ [p]) = encs (Value.int .i64) out ++ [.int .i64 p] := by simp [encs]
  rw [this, List.length_append]
  exact r1
end
end Go.Proofs.YtegmbgjolnbgpaaDoor.P
