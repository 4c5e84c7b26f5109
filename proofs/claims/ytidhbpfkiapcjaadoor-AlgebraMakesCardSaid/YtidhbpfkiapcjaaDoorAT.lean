/- The table of entries (algebra.table): a call of it hands back a new map that holds just the last score of each member. -/
import Derived.Test.YtidhbpfkiapcjaaDoorPx0
import Derived.Test.YtidhbpfkiapcjaaDoorMA
import Derived.Lib.Hide
namespace Go.Proofs.YtidhbpfkiapcjaaDoor.P
open Go.RowKit Go.Lib Go.Proofs.YtidhbpfkiapcjaaDoorW.PrintWords Go.Proofs.YtidhbpfkiapcjaaDoorW.PrintLast Go.Proofs.YtidhbpfkiapcjaaDoorW.PrintMore

/-- The table of a list: later ones win. -/
def tabT (l : List S36) : List (ByteArray × Int) := l.foldl (fun T e => putT T e.f0 e.f1) []
theorem tabT_take (l : List S36) (i : Nat) (h : i < l.length) : tabT (l.take (i + 1)) = putT (tabT (l.take i)) (l[i]).f0 (l[i]).f1 := by
  unfold tabT
  rw [List.take_succ_eq_append_getElem h, List.foldl_append]
  rfl
theorem del_len (T : List (ByteArray × Int)) (m : ByteArray) : (delT T m).length ≤ T.length := List.length_filter_le _ _
theorem put_len (T : List (ByteArray × Int)) (m : ByteArray) (v : Int) : (putT T m v).length ≤ T.length + 1 := by
  unfold putT
  rw [List.length_cons]
  have := List.length_filter_le (fun p : ByteArray × Int => !decide (p.1 = m)) T
  omega
theorem tabT_len (l : List S36) : ∀ T : List (ByteArray × Int), (l.foldl (fun T e => putT T e.f0 e.f1) T).length ≤ T.length + l.length := by
  induction l with
  | nil => intro T; simp
  | cons e l ih =>
    intro T
    rw [List.foldl_cons, List.length_cons]
    have := ih (putT T e.f0 e.f1)
    have := put_len T e.f0 e.f1
    omega
theorem apart_fold (l : List S36) : ∀ T : List (ByteArray × Int), Apart T → Apart (l.foldl (fun T e => putT T e.f0 e.f1) T) := by
  induction l with
  | nil => intro T h; exact h
  | cons e l ih => intro T h; exact ih _ (h.put _ _)
theorem tabT_apart (l : List S36) : Apart (tabT l) := apart_fold l [] List.Pairwise.nil
theorem take_len (l : List S36) (i : Nat) (h : i ≤ l.length) : (tabT (l.take i)).length ≤ i := by
  have := tabT_len (l.take i) []
  rw [List.length_nil, List.length_take] at this
  unfold tabT
  omega
/-- What an entry's parts must be. -/
def GoodE (e : S36) : Prop := e.f0.size ≤ maxLen ∧ (Lit.int .i64 e.f1).wf = true

set_option maxHeartbeats 8000000 in
set_option maxRecDepth 100000 in
theorem table_calls (l : List S36) (A : Option Addr) (c : Nat) (w : World) (hC : Kd.C k36 w A l.length l) (hl : l.length < maxLen) (hg : ∀ e ∈ l, GoodE e) :
    Calls Tryd.prog 29 #[.slice A l.length c] w fun e w' => ∃ b, e = .returned (.map (some b)) ∧ w.heap.size ≤ b ∧ OwnsT Tryd.prog 9 2 w' b (tabT l) ∧ Below w.heap.size w w' := by
  have HC := Aside0.mk hC
  have HG := Aside0.mk hg
  clear hC hg
  obtain ⟨n, hn⟩ : ∃ n, n = l.length := ⟨_, rfl⟩
  have HN := Aside0.mk hn
  rw [← hn] at hl ⊢
  clear hn
  unfold maxLen at hl
  have hmm := @run_makeMap Tryd.prog
  go_enter Tryd.func29, Tryd.ntmps29
  go_wp2_with fail
  go_loopg [9] n (fun gg v9 wr => ∃ i : Nat, v9 = .int .i64 i ∧ i ≤ n ∧ n - i ≤ gg ∧ Aside0 (OwnsT Tryd.prog 9 2 wr w.heap.size (tabT (l.take i))) ∧ Aside0 (Below w.heap.size w wr))
  case atStart => exact ⟨0, rfl, by omega, by omega, ⟨OwnsT.made w Tryd.prog 9 2⟩, ⟨(Below.refl _ _).alloc (Nat.le_refl _) _⟩⟩
  case round =>
    obtain ⟨i, rfl, hi, hg, HO, HB⟩ := hrel
    by_cases hin : i < n
    · have hi1 : (i : Int) < (n : Int) := by omega
      have hil : i < l.length := by have := HN.out; omega
      have hcl := Kd.C_below HC.out HB.out
      rw [← HN.out] at hcl
      obtain ⟨ad, e, hx, hx2⟩ := at_T36 hcl (i : Int) (by omega) hi1
      cases e
      rw [Int.toNat_natCast] at hx hx2
      have hrd : rd_T36 l (i : Int) = l[i] := by
        unfold rd_T36
        rw [Int.toNat_natCast, List.getD_eq_getElem?_getD, List.getElem?_eq_getElem hil]
        rfl
      rw [hrd] at hx hx2
      have hG := HG.out l[i] (List.getElem_mem hil)
      have HTT := Aside0.mk (tabT_take l i hil)
      have hlen := take_len l i (by omega)
      have HL := Aside0.mk hlen
      clear hcl hrd hlen
      generalize l[i] = x at hx hx2 hG HTT
      obtain ⟨hG1, hG2⟩ := hG
      have HG1 := Aside0.mk hG1
      have HG2 := Aside0.mk hG2
      clear hG1 hG2
      go_wp2_with (first
        | (at_mapUpdate; refine wpList_put_own _ rfl _ _ _ 49 rfl 9 2 Tryd.underlying9 Tryd.underlying2 Tryd.underlying49 w.heap.size _ rfl (HO.out.kept (World.grownBy_alloc _ _ none) (by simp)) (by unfold maxLen; have := HL.out; omega) _ _ rfl rfl HG1.out HG2.out ?_; intro w1 hown1 hgrow1))
      have HO1 := Aside0.mk hown1
      have HG3 := Aside0.mk hgrow1
      clear hown1 hgrow1
      go_roundg (n - (i + 1))
      case measure => omega
      case rel =>
        refine ⟨i + 1, by go_num, by omega, by omega, ⟨by rw [HTT.out]; exact HO1.out⟩, ⟨?_⟩⟩
        exact (HB.out.alloc HB.out.size _).grown HG3.out (by have := HB.out.size; simp; omega) (fun j hj => by cases hj; exact Nat.le_refl _)
    · have hi1 : ¬ (i : Int) < (n : Int) := by omega
      go_wp2_with fail
      go_ret
      have hin2 : i = l.length := by have := HN.out; omega
      have ho := HO.out
      rw [hin2, List.take_length] at ho
      exact ⟨_, rfl, Nat.le_refl _, ho, HB.out⟩
end Go.Proofs.YtidhbpfkiapcjaaDoor.P
