/- The names of commands, as the program's map of them. Conditions: each theorem names its own. -/
import Derived.Test.YtegmbgjolnbgpaaDoorCA
import Derived.Maps.OwnOps
import Derived.Maps.OwnSet
import Derived.Maps.Views
namespace Go.Proofs.YtegmbgjolnbgpaaDoor.P
open Go Go.Maps Go.RowKit Go.Lib Go.Proofs.YtegmbgjolnbgpaaDoorW.PrintWords Go.Proofs.YtegmbgjolnbgpaaDoorW.PrintLast Go.Proofs.YtegmbgjolnbgpaaDoorW.PrintMore
attribute [local go_sem] Oper.semAt_some

/-- A name: how few, how many arguments, whether it writes, which function reads them. -/
structure Nm where
  s : ByteArray
  lo : Int
  hi : Int
  wr : Bool
  f : Nat
def nmV (x : Nm) : Value := .agg #[.int .i64 x.lo, .int .i64 x.hi, .bool x.wr, .func (.func x.f) #[] #[]]
def nmZ : Value := .agg #[.int .i64 0, .int .i64 0, .bool false, .nilFunc]
def nmR : List Value → Option (DataW Unit × List MemPlace)
  | [.int .i64 a, .int .i64 c, .bool w, .func (.func f) u v] => if u.size = 0 ∧ v.size = 0 then some (.agg [.lit (.int .i64 a), .lit (.int .i64 c), .lit (.bool w), .lit (.int .i64 f)], []) else none
  | [.int .i64 a, .int .i64 c, .bool w, .nilFunc] => some (.agg [.lit (.int .i64 a), .lit (.int .i64 c), .lit (.bool w), .nil], [])
  | _ => none
def nmE : Value → Option (DataW Unit × List MemPlace)
  | .agg xs => nmR xs.toList
  | _ => none
def nmData (x : Nm) : DataW Unit := .agg [.lit (.int .i64 x.lo), .lit (.int .i64 x.hi), .lit (.bool x.wr), .lit (.int .i64 x.f)]
def nmZero : DataW Unit := .agg [.lit (.int .i64 0), .lit (.int .i64 0), .lit (.bool false), .nil]
theorem nmE_mk (x : Nm) : nmE (nmV x) = some (nmData x, []) := rfl
theorem nmE_zero : nmE nmZ = some (nmZero, []) := rfl
theorem nmR_inv {l : List Value} {a c f : Int} {w : Bool} {ps : List MemPlace} (h : nmR l = some (.agg [.lit (.int .i64 a), .lit (.int .i64 c), .lit (.bool w), .lit (.int .i64 f)], ps)) : l = [.int .i64 a, .int .i64 c, .bool w, .func (.func f.toNat) #[] #[]] := by
  unfold nmR at h
  split at h
  · rename_i a' c' w' f' u v
    split at h
    · rename_i hc
      obtain ⟨rfl, rfl⟩ : u = #[] ∧ v = #[] := ⟨Array.eq_empty_of_size_eq_zero hc.1, Array.eq_empty_of_size_eq_zero hc.2⟩
      simp only [Option.some.injEq, Prod.mk.injEq, DataW.agg.injEq, List.cons.injEq, DataW.lit.injEq, Lit.int.injEq, Lit.bool.injEq, true_and, and_true] at h
      obtain ⟨⟨rfl, rfl, rfl, rfl⟩, _⟩ := h
      rfl
    · cases h
  · simp at h
  · cases h
theorem nmR_zero {l : List Value} {a c : Int} {w : Bool} {ps : List MemPlace} (h : nmR l = some (.agg [.lit (.int .i64 a), .lit (.int .i64 c), .lit (.bool w), .nil], ps)) : l = [.int .i64 a, .int .i64 c, .bool w, .nilFunc] := by
  unfold nmR at h
  split at h
  · split at h
    · simp at h
    · cases h
  · simp only [Option.some.injEq, Prod.mk.injEq, DataW.agg.injEq, List.cons.injEq, DataW.lit.injEq, Lit.int.injEq, Lit.bool.injEq, true_and, and_true] at h
    obtain ⟨⟨rfl, rfl, rfl⟩, _⟩ := h
    rfl
  · cases h
theorem nmE_inv {v : Value} {x : Nm} {ps : List MemPlace} (h : nmE v = some (nmData x, ps)) : v = nmV x := by
  unfold nmE at h
  split at h
  · rename_i xs
    have := nmR_inv h
    show Value.agg xs = _
    rw [show xs = #[.int .i64 x.lo, .int .i64 x.hi, .bool x.wr, .func (.func x.f) #[] #[]] from Array.toList_inj.1 this]
    rfl
  · cases h
theorem nmE_inv0 {v : Value} {ps : List MemPlace} (h : nmE v = some (nmZero, ps)) : v = nmZ := by
  unfold nmE at h
  split at h
  · rename_i xs
    have := nmR_zero h
    show Value.agg xs = _
    rw [show xs = #[.int .i64 0, .int .i64 0, .bool false, .nilFunc] from Array.toList_inj.1 this]
    rfl
  · cases h
def nm0 : Nm := ⟨⟨#[80, 73, 78, 71]⟩, 1, 2, false, 25⟩
def nm1 : Nm := ⟨⟨#[68, 69, 76]⟩, 2, 64, true, 25⟩
def nm2 : Nm := ⟨⟨#[69, 88, 73, 83, 84, 83]⟩, 2, 64, false, 25⟩
def nm3 : Nm := ⟨⟨#[84, 89, 80, 69]⟩, 2, 2, false, 25⟩
def nm4 : Nm := ⟨⟨#[82, 69, 78, 65, 77, 69]⟩, 3, 3, true, 25⟩
def nm5 : Nm := ⟨⟨#[68, 66, 83, 73, 90, 69]⟩, 1, 1, false, 25⟩
def nm6 : Nm := ⟨⟨#[70, 76, 85, 83, 72, 65, 76, 76]⟩, 1, 1, true, 25⟩
def nm7 : Nm := ⟨⟨#[83, 67, 65, 78]⟩, 2, 4, false, 26⟩
def nm8 : Nm := ⟨⟨#[79, 66, 74, 69, 67, 84]⟩, 3, 3, false, 27⟩
def nm9 : Nm := ⟨⟨#[90, 65, 68, 68]⟩, 4, 64, true, 28⟩
def nm10 : Nm := ⟨⟨#[90, 73, 78, 67, 82, 66, 89]⟩, 4, 4, true, 29⟩
def nm11 : Nm := ⟨⟨#[90, 82, 69, 77]⟩, 3, 64, true, 30⟩
def nm12 : Nm := ⟨⟨#[90, 83, 67, 79, 82, 69]⟩, 3, 3, false, 30⟩
def nm13 : Nm := ⟨⟨#[90, 82, 65, 78, 75]⟩, 3, 3, false, 30⟩
def nm14 : Nm := ⟨⟨#[90, 82, 69, 86, 82, 65, 78, 75]⟩, 3, 3, false, 30⟩
def nm15 : Nm := ⟨⟨#[90, 67, 65, 82, 68]⟩, 2, 2, false, 25⟩
def nm16 : Nm := ⟨⟨#[90, 82, 65, 78, 71, 69]⟩, 4, 5, false, 31⟩
def nm17 : Nm := ⟨⟨#[90, 82, 69, 86, 82, 65, 78, 71, 69]⟩, 4, 5, false, 31⟩
def nm18 : Nm := ⟨⟨#[90, 82, 69, 77, 82, 65, 78, 71, 69, 66, 89, 82, 65, 78, 75]⟩, 4, 4, true, 31⟩
def nm19 : Nm := ⟨⟨#[90, 82, 65, 78, 71, 69, 66, 89, 83, 67, 79, 82, 69]⟩, 4, 5, false, 32⟩
def nm20 : Nm := ⟨⟨#[90, 67, 79, 85, 78, 84]⟩, 4, 4, false, 32⟩
def nm21 : Nm := ⟨⟨#[90, 82, 69, 77, 82, 65, 78, 71, 69, 66, 89, 83, 67, 79, 82, 69]⟩, 4, 4, true, 32⟩
def nm22 : Nm := ⟨⟨#[90, 82, 65, 78, 71, 69, 66, 89, 76, 69, 88]⟩, 4, 4, false, 33⟩
def nm23 : Nm := ⟨⟨#[90, 80, 79, 80, 77, 73, 78]⟩, 2, 3, true, 34⟩
def nm24 : Nm := ⟨⟨#[90, 80, 79, 80, 77, 65, 88]⟩, 2, 3, true, 34⟩
def nm25 : Nm := ⟨⟨#[90, 85, 78, 73, 79, 78, 83, 84, 79, 82, 69]⟩, 4, 64, true, 35⟩
def nm26 : Nm := ⟨⟨#[90, 73, 78, 84, 69, 82, 83, 84, 79, 82, 69]⟩, 4, 64, true, 35⟩
def nm27 : Nm := ⟨⟨#[90, 68, 73, 70, 70, 83, 84, 79, 82, 69]⟩, 4, 64, true, 36⟩
def nm28 : Nm := ⟨⟨#[90, 83, 67, 65, 78]⟩, 3, 5, false, 37⟩
def nmT : List Nm := [nm0, nm1, nm2, nm3, nm4, nm5, nm6, nm7, nm8, nm9, nm10, nm11, nm12, nm13, nm14, nm15, nm16, nm17, nm18, nm19, nm20, nm21, nm22, nm23, nm24, nm25, nm26, nm27, nm28]
def keyB (s : ByteArray) : Lit := .string s.data.toList
theorem keyB_inj {a b : ByteArray} (h : keyB a = keyB b) : a = b := by
  unfold keyB at h
  injection h with h
  cases a; cases b
  simp only [ByteArray.mk.injEq]
  exact Array.toList_inj.1 h
def putsN : List Nm → DataW Unit → DataW Unit
  | [], D => D
  | x :: t, D => putsN t (D.put (keyB x.s) (nmData x))
/-- The name that a text is. -/
def findN : List Nm → ByteArray → Option Nm
  | [], _ => none
  | x :: t, s => match findN t s with
    | some y => some y
    | none => if x.s = s then some x else none
theorem atN : ∀ (t : List Nm) (D : DataW Unit) (s : ByteArray) (z : DataW Unit), IsMap D → (putsN t D).atKey (keyB s) z = match findN t s with
    | some x => nmData x
    | none => D.atKey (keyB s) z
  | [], _, _, _, _ => rfl
  | x :: t, D, s, z, hD => by
    rw [putsN, atN t _ s z (hD.put _ _), findN]
    cases findN t s with
    | some y => rfl
    | none =>
      by_cases h : x.s = s
      · simp only [h, if_true]
        exact atKey_put_same hD (show WideAt.IsKeyLit (keyB s) from True.intro) _ _
      · simp only [h, if_false]
        exact atKey_put_other (fun e => h (keyB_inj e.symm)) _ _
theorem hasN : ∀ (t : List Nm) (D : DataW Unit) (s : ByteArray), IsMap D → has (putsN t D) (keyB s) = ((findN t s).isSome || has D (keyB s))
  | [], _, _, _ => by simp [putsN, findN]
  | x :: t, D, s, hD => by
    rw [putsN, hasN t _ s (hD.put _ _), findN]
    cases findN t s with
    | some y => rfl
    | none =>
      by_cases h : x.s = s
      · simp only [h, if_true]
        rw [has_put_same hD (show WideAt.IsKeyLit (keyB s) from True.intro)]
        rfl
      · simp only [h, if_false]
        rw [has_put_other (fun e => h (keyB_inj e.symm))]
def lookN (s : ByteArray) : Option Nm := findN nmT s
def nmVal (s : ByteArray) : Value := match lookN s with
  | some x => nmV x
  | none => nmZ
theorem findN_mem : ∀ {t : List Nm} {s : ByteArray} {x : Nm}, findN t s = some x → x ∈ t ∧ x.s = s
  | [], _, _, h => by cases h
  | y :: t, s, x, h => by
    rw [findN] at h
    cases e : findN t s with
    | some z =>
      rw [e] at h
      cases h
      exact ⟨List.mem_cons_of_mem _ (findN_mem e).1, (findN_mem e).2⟩
    | none =>
      rw [e] at h
      simp only at h
      split at h
      · rename_i hy
        cases h
        exact ⟨List.mem_cons_self, hy⟩
      · cases h
def OwnsN (W : World) (bm : Nat) : Prop := W.ownsMap Tryd.prog 9 nmE bm 29 (putsN nmT (DataW.map []))
theorem OwnsN.below {W W' : World} {bm : Nat} (h : OwnsN W bm) (hb : Below W.heap.size W W') : OwnsN W' bm := by
  have hlt : bm < W.heap.size := World.ownsMap.lt h
  exact World.ownsMap.kept (row := none) h ⟨hb.os, hb.tape, hb.output, hb.size, fun k hk _ => hb.block k hk⟩ (by simp)
theorem zeroName (W : World) : (zeroValue 54).run Tryd.prog W = .ok nmZ W := by kernel_rfl
theorem look_run {W : World} {bm : Nat} (h : OwnsN W bm) (s : ByteArray) (hs : s.size ≤ maxLen) : (Instr.lookup 55 (.map (some bm)) (.string s) false).run Tryd.prog W = .ok (nmVal s) W := by
  obtain ⟨v, ps, hrun, hv⟩ := World.ownsMap.lookup h (string_keyed Tryd.underlying9) Tryd.underlying55 (zeroName W) nmE_zero (WideMaps.keyOf_string_mk Tryd.underlying9 hs)
  rw [hrun]
  rw [show (Lit.string s.data.toList) = keyB s from rfl, atN _ _ _ _ ⟨[], rfl⟩] at hv
  unfold nmVal lookN
  cases e : findN nmT s with
  | some x =>
    rw [e] at hv
    rw [nmE_inv hv]
  | none =>
    rw [e] at hv
    rw [nmE_inv0 hv]
theorem look_ok_run {W : World} {bm : Nat} (h : OwnsN W bm) (s : ByteArray) (hs : s.size ≤ maxLen) : (Instr.lookup 55 (.map (some bm)) (.string s) true).run Tryd.prog W = .ok (.tuple #[nmVal s, .bool (lookN s).isSome]) W := by
  obtain ⟨v, ps, hrun, hv⟩ := World.ownsMap.look_ok h (string_keyed Tryd.underlying9) Tryd.underlying55 (zeroName W) nmE_zero (WideMaps.keyOf_string_mk Tryd.underlying9 hs)
  rw [hrun]
  rw [show (Lit.string s.data.toList) = keyB s from rfl] at hv ⊢
  rw [atN _ _ _ _ ⟨[], rfl⟩] at hv
  rw [hasN _ _ _ ⟨[], rfl⟩]
  unfold nmVal lookN
  cases e : findN nmT s with
  | some x =>
    rw [e] at hv
    rw [nmE_inv hv]
    rfl
  | none =>
    rw [e] at hv
    rw [nmE_inv0 hv]
    rfl
section
variable {H : Type} {P : Program} (w : World) {ops : Array Oper} {rest : List Oper} {o : Oper} {a : Act} {Q : Exit → Act → World → Prop}
theorem wpList_ins (hg : o.guard = none) (m x v : Operand) (t : TypeId) (hop : o.op = Op.insert t m x v) (k e : TypeId) (K : Maps.Keyed P k) (ht : P.underlying t = some (.map k e)) (R : Value → Option (DataW H × List MemPlace)) (b n : Nat) (D : DataW H)
    (hm : a.eval m = .map (some b)) (hown : w.ownsMap P k R b n D) (hn : n < maxLen) (key val : Value) (kl : Lit) (hx : a.eval x = key) (hv : a.eval v = val) (hkey : keyOf P k key = some kl) (d : DataW H) (ps : List MemPlace) (hval : R val = some (d, ps))
    (hK : ∀ w', w'.ownsMap P k R b (n + 1) (D.put kl d) → w.grownBy w' (some b) → wpList P ops Q rest (a.put o.dst undef) w') :
    wpList P ops Q (o :: rest) a w := by
  refine wpList_plain hg fun K' hK' => ?_
  obtain ⟨w', hrun, r1, r2⟩ := hown.update K ht hn hkey hval
  unfold Oper.wp
  simp [execOp, hop, hm, hx, hv, hrun, Result.andThen]
  exact hK' _ _ (hK w' r1 r2)
end
set_option maxHeartbeats 16000000 in
set_option maxRecDepth 100000 in
theorem names_calls (w : World) : Calls Tryd.prog 17 #[] w fun e w' => e = .returned (.map (some w.heap.size)) ∧ OwnsN w' w.heap.size ∧ Below w.heap.size w w' := by
  have hmm := @run_makeMap Tryd.prog
  have h0 : (w.alloc (.map #[] 0)).ownsMap Tryd.prog 9 nmE w.heap.size 0 (DataW.map []) := w.ownsMap_made Tryd.prog 9 nmE
  have b0 : Aside0 (Below w.heap.size w (w.alloc (.map #[] 0))) := ⟨(Below.refl _ _).alloc (Nat.le_refl _) _⟩
  go_enter Tryd.func17, Tryd.ntmps17
  go_wp2_with (first
    | (refine wpList_ins _ rfl (.tmp 1) (.const (.string ⟨#[80, 73, 78, 71]⟩)) (.tmp 2) 55 rfl 9 54 (string_keyed Tryd.underlying9) Tryd.underlying55 nmE w.heap.size 0 _ rfl h0 (by decide) _ _ _ rfl rfl (WideMaps.keyOf_string_mk Tryd.underlying9 (by decide)) _ _ (nmE_mk nm0) ?_; intro w1 h1 g1; have b1 := Aside0.mk (b0.out.grown g1 b0.out.size (fun k e => by cases e; exact Nat.le_refl _)); clear h0 g1 b0)
    | (refine wpList_ins _ rfl (.tmp 1) (.const (.string ⟨#[68, 69, 76]⟩)) (.tmp 3) 55 rfl 9 54 (string_keyed Tryd.underlying9) Tryd.underlying55 nmE w.heap.size 1 _ rfl h1 (by decide) _ _ _ rfl rfl (WideMaps.keyOf_string_mk Tryd.underlying9 (by decide)) _ _ (nmE_mk nm1) ?_; intro w2 h2 g2; have b2 := Aside0.mk (b1.out.grown g2 b1.out.size (fun k e => by cases e; exact Nat.le_refl _)); clear h1 g2 b1)
    | (refine wpList_ins _ rfl (.tmp 1) (.const (.string ⟨#[69, 88, 73, 83, 84, 83]⟩)) (.tmp 4) 55 rfl 9 54 (string_keyed Tryd.underlying9) Tryd.underlying55 nmE w.heap.size 2 _ rfl h2 (by decide) _ _ _ rfl rfl (WideMaps.keyOf_string_mk Tryd.underlying9 (by decide)) _ _ (nmE_mk nm2) ?_; intro w3 h3 g3; have b3 := Aside0.mk (b2.out.grown g3 b2.out.size (fun k e => by cases e; exact Nat.le_refl _)); clear h2 g3 b2)
    | (refine wpList_ins _ rfl (.tmp 1) (.const (.string ⟨#[84, 89, 80, 69]⟩)) (.tmp 5) 55 rfl 9 54 (string_keyed Tryd.underlying9) Tryd.underlying55 nmE w.heap.size 3 _ rfl h3 (by decide) _ _ _ rfl rfl (WideMaps.keyOf_string_mk Tryd.underlying9 (by decide)) _ _ (nmE_mk nm3) ?_; intro w4 h4 g4; have b4 := Aside0.mk (b3.out.grown g4 b3.out.size (fun k e => by cases e; exact Nat.le_refl _)); clear h3 g4 b3)
    | (refine wpList_ins _ rfl (.tmp 1) (.const (.string ⟨#[82, 69, 78, 65, 77, 69]⟩)) (.tmp 6) 55 rfl 9 54 (string_keyed Tryd.underlying9) Tryd.underlying55 nmE w.heap.size 4 _ rfl h4 (by decide) _ _ _ rfl rfl (WideMaps.keyOf_string_mk Tryd.underlying9 (by decide)) _ _ (nmE_mk nm4) ?_; intro w5 h5 g5; have b5 := Aside0.mk (b4.out.grown g5 b4.out.size (fun k e => by cases e; exact Nat.le_refl _)); clear h4 g5 b4)
    | (refine wpList_ins _ rfl (.tmp 1) (.const (.string ⟨#[68, 66, 83, 73, 90, 69]⟩)) (.tmp 7) 55 rfl 9 54 (string_keyed Tryd.underlying9) Tryd.underlying55 nmE w.heap.size 5 _ rfl h5 (by decide) _ _ _ rfl rfl (WideMaps.keyOf_string_mk Tryd.underlying9 (by decide)) _ _ (nmE_mk nm5) ?_; intro w6 h6 g6; have b6 := Aside0.mk (b5.out.grown g6 b5.out.size (fun k e => by cases e; exact Nat.le_refl _)); clear h5 g6 b5)
    | (refine wpList_ins _ rfl (.tmp 1) (.const (.string ⟨#[70, 76, 85, 83, 72, 65, 76, 76]⟩)) (.tmp 8) 55 rfl 9 54 (string_keyed Tryd.underlying9) Tryd.underlying55 nmE w.heap.size 6 _ rfl h6 (by decide) _ _ _ rfl rfl (WideMaps.keyOf_string_mk Tryd.underlying9 (by decide)) _ _ (nmE_mk nm6) ?_; intro w7 h7 g7; have b7 := Aside0.mk (b6.out.grown g7 b6.out.size (fun k e => by cases e; exact Nat.le_refl _)); clear h6 g7 b6)
    | (refine wpList_ins _ rfl (.tmp 1) (.const (.string ⟨#[83, 67, 65, 78]⟩)) (.tmp 9) 55 rfl 9 54 (string_keyed Tryd.underlying9) Tryd.underlying55 nmE w.heap.size 7 _ rfl h7 (by decide) _ _ _ rfl rfl (WideMaps.keyOf_string_mk Tryd.underlying9 (by decide)) _ _ (nmE_mk nm7) ?_; intro w8 h8 g8; have b8 := Aside0.mk (b7.out.grown g8 b7.out.size (fun k e => by cases e; exact Nat.le_refl _)); clear h7 g8 b7)
    | (refine wpList_ins _ rfl (.tmp 1) (.const (.string ⟨#[79, 66, 74, 69, 67, 84]⟩)) (.tmp 10) 55 rfl 9 54 (string_keyed Tryd.underlying9) Tryd.underlying55 nmE w.heap.size 8 _ rfl h8 (by decide) _ _ _ rfl rfl (WideMaps.keyOf_string_mk Tryd.underlying9 (by decide)) _ _ (nmE_mk nm8) ?_; intro w9 h9 g9; have b9 := Aside0.mk (b8.out.grown g9 b8.out.size (fun k e => by cases e; exact Nat.le_refl _)); clear h8 g9 b8)
    | (refine wpList_ins _ rfl (.tmp 1) (.const (.string ⟨#[90, 65, 68, 68]⟩)) (.tmp 11) 55 rfl 9 54 (string_keyed Tryd.underlying9) Tryd.underlying55 nmE w.heap.size 9 _ rfl h9 (by decide) _ _ _ rfl rfl (WideMaps.keyOf_string_mk Tryd.underlying9 (by decide)) _ _ (nmE_mk nm9) ?_; intro w10 h10 g10; have b10 := Aside0.mk (b9.out.grown g10 b9.out.size (fun k e => by cases e; exact Nat.le_refl _)); clear h9 g10 b9)
    | (refine wpList_ins _ rfl (.tmp 1) (.const (.string ⟨#[90, 73, 78, 67, 82, 66, 89]⟩)) (.tmp 12) 55 rfl 9 54 (string_keyed Tryd.underlying9) Tryd.underlying55 nmE w.heap.size 10 _ rfl h10 (by decide) _ _ _ rfl rfl (WideMaps.keyOf_string_mk Tryd.underlying9 (by decide)) _ _ (nmE_mk nm10) ?_; intro w11 h11 g11; have b11 := Aside0.mk (b10.out.grown g11 b10.out.size (fun k e => by cases e; exact Nat.le_refl _)); clear h10 g11 b10)
    | (refine wpList_ins _ rfl (.tmp 1) (.const (.string ⟨#[90, 82, 69, 77]⟩)) (.tmp 13) 55 rfl 9 54 (string_keyed Tryd.underlying9) Tryd.underlying55 nmE w.heap.size 11 _ rfl h11 (by decide) _ _ _ rfl rfl (WideMaps.keyOf_string_mk Tryd.underlying9 (by decide)) _ _ (nmE_mk nm11) ?_; intro w12 h12 g12; have b12 := Aside0.mk (b11.out.grown g12 b11.out.size (fun k e => by cases e; exact Nat.le_refl _)); clear h11 g12 b11)
    | (refine wpList_ins _ rfl (.tmp 1) (.const (.string ⟨#[90, 83, 67, 79, 82, 69]⟩)) (.tmp 14) 55 rfl 9 54 (string_keyed Tryd.underlying9) Tryd.underlying55 nmE w.heap.size 12 _ rfl h12 (by decide) _ _ _ rfl rfl (WideMaps.keyOf_string_mk Tryd.underlying9 (by decide)) _ _ (nmE_mk nm12) ?_; intro w13 h13 g13; have b13 := Aside0.mk (b12.out.grown g13 b12.out.size (fun k e => by cases e; exact Nat.le_refl _)); clear h12 g13 b12)
    | (refine wpList_ins _ rfl (.tmp 1) (.const (.string ⟨#[90, 82, 65, 78, 75]⟩)) (.tmp 15) 55 rfl 9 54 (string_keyed Tryd.underlying9) Tryd.underlying55 nmE w.heap.size 13 _ rfl h13 (by decide) _ _ _ rfl rfl (WideMaps.keyOf_string_mk Tryd.underlying9 (by decide)) _ _ (nmE_mk nm13) ?_; intro w14 h14 g14; have b14 := Aside0.mk (b13.out.grown g14 b13.out.size (fun k e => by cases e; exact Nat.le_refl _)); clear h13 g14 b13)
    | (refine wpList_ins _ rfl (.tmp 1) (.const (.string ⟨#[90, 82, 69, 86, 82, 65, 78, 75]⟩)) (.tmp 16) 55 rfl 9 54 (string_keyed Tryd.underlying9) Tryd.underlying55 nmE w.heap.size 14 _ rfl h14 (by decide) _ _ _ rfl rfl (WideMaps.keyOf_string_mk Tryd.underlying9 (by decide)) _ _ (nmE_mk nm14) ?_; intro w15 h15 g15; have b15 := Aside0.mk (b14.out.grown g15 b14.out.size (fun k e => by cases e; exact Nat.le_refl _)); clear h14 g15 b14)
    | (refine wpList_ins _ rfl (.tmp 1) (.const (.string ⟨#[90, 67, 65, 82, 68]⟩)) (.tmp 17) 55 rfl 9 54 (string_keyed Tryd.underlying9) Tryd.underlying55 nmE w.heap.size 15 _ rfl h15 (by decide) _ _ _ rfl rfl (WideMaps.keyOf_string_mk Tryd.underlying9 (by decide)) _ _ (nmE_mk nm15) ?_; intro w16 h16 g16; have b16 := Aside0.mk (b15.out.grown g16 b15.out.size (fun k e => by cases e; exact Nat.le_refl _)); clear h15 g16 b15)
    | (refine wpList_ins _ rfl (.tmp 1) (.const (.string ⟨#[90, 82, 65, 78, 71, 69]⟩)) (.tmp 18) 55 rfl 9 54 (string_keyed Tryd.underlying9) Tryd.underlying55 nmE w.heap.size 16 _ rfl h16 (by decide) _ _ _ rfl rfl (WideMaps.keyOf_string_mk Tryd.underlying9 (by decide)) _ _ (nmE_mk nm16) ?_; intro w17 h17 g17; have b17 := Aside0.mk (b16.out.grown g17 b16.out.size (fun k e => by cases e; exact Nat.le_refl _)); clear h16 g17 b16)
    | (refine wpList_ins _ rfl (.tmp 1) (.const (.string ⟨#[90, 82, 69, 86, 82, 65, 78, 71, 69]⟩)) (.tmp 19) 55 rfl 9 54 (string_keyed Tryd.underlying9) Tryd.underlying55 nmE w.heap.size 17 _ rfl h17 (by decide) _ _ _ rfl rfl (WideMaps.keyOf_string_mk Tryd.underlying9 (by decide)) _ _ (nmE_mk nm17) ?_; intro w18 h18 g18; have b18 := Aside0.mk (b17.out.grown g18 b17.out.size (fun k e => by cases e; exact Nat.le_refl _)); clear h17 g18 b17)
    | (refine wpList_ins _ rfl (.tmp 1) (.const (.string ⟨#[90, 82, 69, 77, 82, 65, 78, 71, 69, 66, 89, 82, 65, 78, 75]⟩)) (.tmp 20) 55 rfl 9 54 (string_keyed Tryd.underlying9) Tryd.underlying55 nmE w.heap.size 18 _ rfl h18 (by decide) _ _ _ rfl rfl (WideMaps.keyOf_string_mk Tryd.underlying9 (by decide)) _ _ (nmE_mk nm18) ?_; intro w19 h19 g19; have b19 := Aside0.mk (b18.out.grown g19 b18.out.size (fun k e => by cases e; exact Nat.le_refl _)); clear h18 g19 b18)
    | (refine wpList_ins _ rfl (.tmp 1) (.const (.string ⟨#[90, 82, 65, 78, 71, 69, 66, 89, 83, 67, 79, 82, 69]⟩)) (.tmp 21) 55 rfl 9 54 (string_keyed Tryd.underlying9) Tryd.underlying55 nmE w.heap.size 19 _ rfl h19 (by decide) _ _ _ rfl rfl (WideMaps.keyOf_string_mk Tryd.underlying9 (by decide)) _ _ (nmE_mk nm19) ?_; intro w20 h20 g20; have b20 := Aside0.mk (b19.out.grown g20 b19.out.size (fun k e => by cases e; exact Nat.le_refl _)); clear h19 g20 b19)
    | (refine wpList_ins _ rfl (.tmp 1) (.const (.string ⟨#[90, 67, 79, 85, 78, 84]⟩)) (.tmp 22) 55 rfl 9 54 (string_keyed Tryd.underlying9) Tryd.underlying55 nmE w.heap.size 20 _ rfl h20 (by decide) _ _ _ rfl rfl (WideMaps.keyOf_string_mk Tryd.underlying9 (by decide)) _ _ (nmE_mk nm20) ?_; intro w21 h21 g21; have b21 := Aside0.mk (b20.out.grown g21 b20.out.size (fun k e => by cases e; exact Nat.le_refl _)); clear h20 g21 b20)
    | (refine wpList_ins _ rfl (.tmp 1) (.const (.string ⟨#[90, 82, 69, 77, 82, 65, 78, 71, 69, 66, 89, 83, 67, 79, 82, 69]⟩)) (.tmp 23) 55 rfl 9 54 (string_keyed Tryd.underlying9) Tryd.underlying55 nmE w.heap.size 21 _ rfl h21 (by decide) _ _ _ rfl rfl (WideMaps.keyOf_string_mk Tryd.underlying9 (by decide)) _ _ (nmE_mk nm21) ?_; intro w22 h22 g22; have b22 := Aside0.mk (b21.out.grown g22 b21.out.size (fun k e => by cases e; exact Nat.le_refl _)); clear h21 g22 b21)
    | (refine wpList_ins _ rfl (.tmp 1) (.const (.string ⟨#[90, 82, 65, 78, 71, 69, 66, 89, 76, 69, 88]⟩)) (.tmp 24) 55 rfl 9 54 (string_keyed Tryd.underlying9) Tryd.underlying55 nmE w.heap.size 22 _ rfl h22 (by decide) _ _ _ rfl rfl (WideMaps.keyOf_string_mk Tryd.underlying9 (by decide)) _ _ (nmE_mk nm22) ?_; intro w23 h23 g23; have b23 := Aside0.mk (b22.out.grown g23 b22.out.size (fun k e => by cases e; exact Nat.le_refl _)); clear h22 g23 b22)
    | (refine wpList_ins _ rfl (.tmp 1) (.const (.string ⟨#[90, 80, 79, 80, 77, 73, 78]⟩)) (.tmp 25) 55 rfl 9 54 (string_keyed Tryd.underlying9) Tryd.underlying55 nmE w.heap.size 23 _ rfl h23 (by decide) _ _ _ rfl rfl (WideMaps.keyOf_string_mk Tryd.underlying9 (by decide)) _ _ (nmE_mk nm23) ?_; intro w24 h24 g24; have b24 := Aside0.mk (b23.out.grown g24 b23.out.size (fun k e => by cases e; exact Nat.le_refl _)); clear h23 g24 b23)
    | (refine wpList_ins _ rfl (.tmp 1) (.const (.string ⟨#[90, 80, 79, 80, 77, 65, 88]⟩)) (.tmp 26) 55 rfl 9 54 (string_keyed Tryd.underlying9) Tryd.underlying55 nmE w.heap.size 24 _ rfl h24 (by decide) _ _ _ rfl rfl (WideMaps.keyOf_string_mk Tryd.underlying9 (by decide)) _ _ (nmE_mk nm24) ?_; intro w25 h25 g25; have b25 := Aside0.mk (b24.out.grown g25 b24.out.size (fun k e => by cases e; exact Nat.le_refl _)); clear h24 g25 b24)
    | (refine wpList_ins _ rfl (.tmp 1) (.const (.string ⟨#[90, 85, 78, 73, 79, 78, 83, 84, 79, 82, 69]⟩)) (.tmp 27) 55 rfl 9 54 (string_keyed Tryd.underlying9) Tryd.underlying55 nmE w.heap.size 25 _ rfl h25 (by decide) _ _ _ rfl rfl (WideMaps.keyOf_string_mk Tryd.underlying9 (by decide)) _ _ (nmE_mk nm25) ?_; intro w26 h26 g26; have b26 := Aside0.mk (b25.out.grown g26 b25.out.size (fun k e => by cases e; exact Nat.le_refl _)); clear h25 g26 b25)
    | (refine wpList_ins _ rfl (.tmp 1) (.const (.string ⟨#[90, 73, 78, 84, 69, 82, 83, 84, 79, 82, 69]⟩)) (.tmp 28) 55 rfl 9 54 (string_keyed Tryd.underlying9) Tryd.underlying55 nmE w.heap.size 26 _ rfl h26 (by decide) _ _ _ rfl rfl (WideMaps.keyOf_string_mk Tryd.underlying9 (by decide)) _ _ (nmE_mk nm26) ?_; intro w27 h27 g27; have b27 := Aside0.mk (b26.out.grown g27 b26.out.size (fun k e => by cases e; exact Nat.le_refl _)); clear h26 g27 b26)
    | (refine wpList_ins _ rfl (.tmp 1) (.const (.string ⟨#[90, 68, 73, 70, 70, 83, 84, 79, 82, 69]⟩)) (.tmp 29) 55 rfl 9 54 (string_keyed Tryd.underlying9) Tryd.underlying55 nmE w.heap.size 27 _ rfl h27 (by decide) _ _ _ rfl rfl (WideMaps.keyOf_string_mk Tryd.underlying9 (by decide)) _ _ (nmE_mk nm27) ?_; intro w28 h28 g28; have b28 := Aside0.mk (b27.out.grown g28 b27.out.size (fun k e => by cases e; exact Nat.le_refl _)); clear h27 g28 b27)
    | (refine wpList_ins _ rfl (.tmp 1) (.const (.string ⟨#[90, 83, 67, 65, 78]⟩)) (.tmp 30) 55 rfl 9 54 (string_keyed Tryd.underlying9) Tryd.underlying55 nmE w.heap.size 28 _ rfl h28 (by decide) _ _ _ rfl rfl (WideMaps.keyOf_string_mk Tryd.underlying9 (by decide)) _ _ (nmE_mk nm28) ?_; intro w29 h29 g29; have b29 := Aside0.mk (b28.out.grown g29 b28.out.size (fun k e => by cases e; exact Nat.le_refl _)); clear h28 g29 b28)
    )
  go_ret
  exact ⟨rfl, h29, b29.out⟩
end Go.Proofs.YtegmbgjolnbgpaaDoor.P
