/- What a change of a list leaves of memory; one entry more in it. Conditions: each theorem names its own. -/
import Derived.Test.YtnlbdmiflihghaaSKI
import Derived.Test.YtnlbdmiflihghaaSK7
import Derived.LaidEql
namespace Go.Proofs.Ytnlbdmiflihghaa.P
open Go.RowKit Go.Shelf Go.Proofs.YtnlbdmiflihghaaW.PrintWords Go.Proofs.YtnlbdmiflihghaaW.PrintLast Go.Proofs.YtnlbdmiflihghaaW.PrintMore Go.Proofs.Ytnlbdmiflihghaa.SK
attribute [local go_sem] Oper.semAt_some

/-- What lies in elder blocks but some lies as it lay. -/
structure Foot (F : List Nat) (w w' : World) : Prop where
  os : w'.os = w.os
  tape : w'.tape = w.tape
  output : w'.output = w.output
  size : w.heap.size ≤ w'.heap.size
  block : ∀ k, k < w.heap.size → k ∉ F → w'.heap[k]? = w.heap[k]?
section
variable {F : List Nat} {w w' w'' : World}
theorem Foot.refl (F : List Nat) (w : World) : Foot F w w := ⟨rfl, rfl, rfl, Nat.le_refl _, fun _ _ _ => rfl⟩
theorem Foot.trans (h : Foot F w w') (h' : Foot F w' w'') : Foot F w w'' := ⟨h'.os.trans h.os, h'.tape.trans h.tape, h'.output.trans h.output, Nat.le_trans h.size h'.size, fun k hk hF => (h'.block k (Nat.lt_of_lt_of_le hk h.size) hF).trans (h.block k hk hF)⟩
theorem Foot.below (h : Foot F w w') (hb : Below w.heap.size w' w'') : Foot F w w'' := ⟨hb.os.trans h.os, hb.tape.trans h.tape, hb.output.trans h.output, Nat.le_trans h.size hb.size, fun k hk hF => (hb.block k hk).trans (h.block k hk hF)⟩
theorem Foot.of (hb : Below w.heap.size w w') : Foot F w w' := (Foot.refl F w).below hb
theorem Foot.setCell (h : Foot F w w') {B j : Nat} (v : Value) (hB : B ∈ F ∨ w.heap.size ≤ B) : Foot F w (w'.setCell ⟨B, j, none⟩ v) :=
  ⟨h.os, h.tape, h.output, by have := h.size; simpa [World.setCell] using this, fun k hk hF => (Below.heap_setCell _ _ _ _ (by show k ≠ B; rintro rfl; rcases hB with hB | hB; exact hF hB; omega)).trans (h.block k hk hF)⟩
theorem Foot.drew (h : Foot F w w') : Foot F w w'.drew := ⟨h.os, h.tape, h.output, h.size, h.block⟩
theorem Foot.alloc (h : Foot F w w') (o : Obj) : Foot F w (w'.alloc o) := h.below ((Below.refl _ _).alloc h.size o)
theorem Foot.mono {G : List Nat} (h : Foot F w w') (hs : ∀ k, k < w.heap.size → k ∈ F → k ∈ G) : Foot G w w' := ⟨h.os, h.tape, h.output, h.size, fun k hk hG => h.block k hk (fun hF => hG (hs k hk hF))⟩
theorem Foot.trans' {G : List Nat} (h : Foot F w w') (h' : Foot G w' w'') (hs : ∀ k, k < w.heap.size → k ∈ G → k ∈ F) : Foot F w w'' := ⟨h'.os.trans h.os, h'.tape.trans h.tape, h'.output.trans h.output, Nat.le_trans h.size h'.size, fun k hk hF => (h'.block k (Nat.lt_of_lt_of_le hk h.size) (fun hG => hF (hs k hk hG))).trans (h.block k hk hF)⟩
theorem Foot.toBelow {m : Nat} (h : Foot F w w') (hm : m ≤ w.heap.size) (hF : ∀ k, k ∈ F → m ≤ k) : Below m w w' := ⟨h.os, h.tape, h.output, h.size, fun k hk => h.block k (by omega) (fun hk2 => by have := hF k hk2; omega)⟩
end
section
variable {W : World} {b : Nat} {S : List Nat} {σ σ' : St}
theorem lnk_ext {t t' : Nat → Option Nat × Int} (h : ∀ j, j < 32 → t j = t' j) (j : Nat) (h1 : 2 ≤ j) (h2 : j < 66) : lnk t j = lnk t' j := by
  unfold lnk
  rw [h ((j - 2) / 2) (by omega)]
theorem Sk.ext (h : Sk W b S σ) (hE : ∀ c, c ∈ S → σ.E c = σ'.E c) (hl : ∀ c, c ∈ S → σ.lev c = σ'.lev c) (ht : ∀ c, c ∈ b :: S → ∀ j, j < 32 → σ.tow c j = σ'.tow c j) (hb : ∀ c, c ∈ S → σ.bk c = σ'.bk c) (h1 : σ.last = σ'.last) (h2 : σ.H = σ'.H) (h3 : σ.n = σ'.n) : Sk W b S σ' := by
  refine ⟨h.head.ext (fun j hj => ?_), fun c hc => (h.node c hc).ext (fun j hj => ?_), h.ne⟩
  · unfold headC
    rw [h1, h2, h3]
    by_cases a0 : j = 0
    · rw [if_pos a0, if_pos a0]
    by_cases a1 : j = 1
    · rw [if_neg a0, if_pos a1, if_neg a0, if_pos a1]
    by_cases a2 : j < 66
    · rw [if_neg a0, if_neg a1, if_pos a2, if_neg a0, if_neg a1, if_pos a2]
      exact lnk_ext (ht b List.mem_cons_self) j (by omega) a2
    · rw [if_neg a0, if_neg a1, if_neg a2, if_neg a0, if_neg a1, if_neg a2]
  · unfold nodeC
    rw [hE c hc, hl c hc, hb c hc]
    by_cases a0 : j = 0
    · rw [if_pos a0, if_pos a0]
    by_cases a1 : j = 1
    · rw [if_neg a0, if_pos a1, if_neg a0, if_pos a1]
    by_cases a2 : j < 66
    · rw [if_neg a0, if_neg a1, if_pos a2, if_neg a0, if_neg a1, if_pos a2]
      exact lnk_ext (ht c (List.mem_cons_of_mem _ hc)) j (by omega) a2
    · rw [if_neg a0, if_neg a1, if_neg a2, if_neg a0, if_neg a1, if_neg a2]
theorem Sk.mem {S' : List Nat} (h : Sk W b S σ) (hm : ∀ c, c ∈ S' → c ∈ S) : Sk W b S' σ := ⟨h.head, fun c hc => h.node c (hm c hc), fun hb => h.ne (hm b hb)⟩
theorem Sk.add {x : Nat} (h : Sk W b S σ) (hx : Bk W x 62 68 (nodeC (σ.E x) (σ.tow x) (σ.lev x) (σ.bk x))) (hxb : x ≠ b) : Sk W b (x :: S) σ := by
  refine ⟨h.head, fun c hc => ?_, fun hb => ?_⟩
  · rcases List.mem_cons.mp hc with rfl | hc
    · exact hx
    · exact h.node c hc
  · rcases List.mem_cons.mp hb with hb | hb
    · exact hxb hb.symm
    · exact h.ne hb
end
theorem zero62 (w : World) : (zeroValue 62).run Try.prog w = .ok (.agg #[.string ⟨#[]⟩, .int .i64 0, .pointer none, .int .i64 0, .pointer none, .int .i64 0, .pointer none, .int .i64 0, .pointer none, .int .i64 0, .pointer none, .int .i64 0, .pointer none, .int .i64 0, .pointer none, .int .i64 0, .pointer none, .int .i64 0, .pointer none, .int .i64 0, .pointer none, .int .i64 0, .pointer none, .int .i64 0, .pointer none, .int .i64 0, .pointer none, .int .i64 0, .pointer none, .int .i64 0, .pointer none, .int .i64 0, .pointer none, .int .i64 0, .pointer none, .int .i64 0, .pointer none, .int .i64 0, .pointer none, .int .i64 0, .pointer none, .int .i64 0, .pointer none, .int .i64 0, .pointer none, .int .i64 0, .pointer none, .int .i64 0, .pointer none, .int .i64 0, .pointer none, .int .i64 0, .pointer none, .int .i64 0, .pointer none, .int .i64 0, .pointer none, .int .i64 0, .pointer none, .int .i64 0, .pointer none, .int .i64 0, .pointer none, .int .i64 0, .pointer none, .int .i64 0, .int .i64 0, .pointer none]) w := by kernel_rfl
theorem node0 (e : En) (h : Nat) : (List.range 68).map (nodeC e (fun _ => (none, 0)) h none) = [.string e.1, .int .i64 e.2, .pointer none, .int .i64 0, .pointer none, .int .i64 0, .pointer none, .int .i64 0, .pointer none, .int .i64 0, .pointer none, .int .i64 0, .pointer none, .int .i64 0, .pointer none, .int .i64 0, .pointer none, .int .i64 0, .pointer none, .int .i64 0, .pointer none, .int .i64 0, .pointer none, .int .i64 0, .pointer none, .int .i64 0, .pointer none, .int .i64 0, .pointer none, .int .i64 0, .pointer none, .int .i64 0, .pointer none, .int .i64 0, .pointer none, .int .i64 0, .pointer none, .int .i64 0, .pointer none, .int .i64 0, .pointer none, .int .i64 0, .pointer none, .int .i64 0, .pointer none, .int .i64 0, .pointer none, .int .i64 0, .pointer none, .int .i64 0, .pointer none, .int .i64 0, .pointer none, .int .i64 0, .pointer none, .int .i64 0, .pointer none, .int .i64 0, .pointer none, .int .i64 0, .pointer none, .int .i64 0, .pointer none, .int .i64 0, .pointer none, .int .i64 0, .int .i64 h, .pointer none] := by kernel_rfl
theorem mx_nat (a c : Nat) : mx (a : Int) (c : Int) = ((max a c : Nat) : Int) := by
  unfold mx
  split <;> omega
theorem elem56 : Try.prog.underlying 56 = some (.pointer 62) := by kernel_rfl
theorem info62 : ∃ j, Try.prog.info? 62 = some j ∧ j.size = 68 := ⟨(Try.prog.info? 62).getD default, by kernel_rfl, by kernel_rfl⟩
theorem neq_same (b : Nat) (w : World) : (binOp .neq 56 (.pointer (some ⟨b, 0, none⟩)) (.pointer (some ⟨b, 0, none⟩))).run Try.prog w = .ok (.bool false) w := by
  obtain ⟨j, h1, _⟩ := info62
  have h : ∀ d : Nat, (Op.equalIn (d + 1) 56 (.pointer (some ⟨b, 0, none⟩)) (.pointer (some ⟨b, 0, none⟩))).run Try.prog w = .ok true w := fun d => by simp [Op.equalIn, run_underlying elem56, sizeOf, typeInfo, h1, run_sameAddr_same]
  simp only [binOp]
  simp [Op.equal, Op.maxDepth, h 9999]
theorem neq_other (c b : Nat) (w : World) (hne : c ≠ b) {C B : Array Value} {T U : TypeId} (hc : w.heap[c]? = some (.cells C T (0, 0))) (hb : w.heap[b]? = some (.cells B U (0, 0))) : (binOp .neq 56 (.pointer (some ⟨c, 0, none⟩)) (.pointer (some ⟨b, 0, none⟩))).run Try.prog w = .ok (.bool true) w := by
  obtain ⟨j, h1, h2⟩ := info62
  have h3 := run_sameAddr_other (P := Try.prog) w (a := ⟨c, 0, none⟩) (b := ⟨b, 0, none⟩) (fun e => hne (by injection e)) hc hb
  have h : ∀ d : Nat, (Op.equalIn (d + 1) 56 (.pointer (some ⟨c, 0, none⟩)) (.pointer (some ⟨b, 0, none⟩))).run Try.prog w = .ok false w := fun d => by simp [Op.equalIn, run_underlying elem56, sizeOf, typeInfo, h1, h2, h3]
  simp only [binOp]
  simp [Op.equal, Op.maxDepth, h 9999]
end Go.Proofs.Ytnlbdmiflihghaa.P
