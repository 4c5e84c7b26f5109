/- algebra.list: a table's entries, in order. algebra.Sort: the entries of a list, the last of each member, in order. -/
import Derived.Test.YtidhbpfkiapcjaaDoorAB
import Derived.Test.YtidhbpfkiapcjaaDoorMA
import Derived.Test.YtidhbpfkiapcjaaDoorMS
/-! algebra.list: a table's entries, in order. -/
section
namespace Go.Proofs.YtidhbpfkiapcjaaDoor.P
open Go.RowKit Go.Lib Go.Proofs.YtidhbpfkiapcjaaDoorW.PrintWords Go.Proofs.YtidhbpfkiapcjaaDoorW.PrintLast Go.Proofs.YtidhbpfkiapcjaaDoorW.PrintMore Go.Proofs.YtidhbpfkiapcjaaDoor.Pure

theorem info36e : (Tryd.prog.info? 36).map (fun i => (i.zero, i.size, i.bytes)) = some (some (.agg #[(.string ⟨#[]⟩), (.int .i64 0)]), 2, 24) := by kernel_rfl
theorem append_e {ops : Array Oper} {rest : List Oper} {o : Oper} {a : Act} {Q : Exit → Act → World → Prop} (W : World) (base : Nat) (hgd : o.guard = none) (x y : Operand) (ho : o.op = .call { callee := .builtin .append, args := #[x, y], argTypes := #[26, 26] })
    (v : Value) (out : List S36) (p : S36) (hs : a.eval x = v) (hx : a.eval y = .slice (some ⟨W.heap.size, 0, none⟩) 1 1)
    (HO : Kd.R k36 36 W base (fun k => base ≤ k) v out) (hb : base ≤ W.heap.size) (hl : out.length ≤ 1000000000)
    (h : ∀ v1 w1, Kd.R k36 36 w1 base (fun k => base ≤ k) v1 (out ++ [p]) → Below base W w1 → W.grownBy w1 v.ownBlock → wpList Tryd.prog ops Q rest (a.put o.dst v1) w1) :
    wpList Tryd.prog ops Q (o :: rest) a (W.alloc (.cells #[.string p.f0, .int .i64 p.f1] 36)) :=
  Kd.R_append k36 (w0 := W) (W := W) base hgd x y 26 36 (.agg #[(.string ⟨#[]⟩), (.int .i64 0)]) 24 ho Tryd.underlying26 info36e rfl (by decide) (by omega) v out p [.string p.f0, .int .i64 p.f1] (fun k => base ≤ k) (fun _ => False) hs hx (k36_mkM _ _ _ p) (fun _ hk => hk.elim) (fun k hk => by omega) HO (Below.refl _ _) hb (by omega)
    (fun v1 w1 h1 h2 h3 _ => h v1 w1 h1 h2 h3)
/-- An entry of a table. -/
def toE (p : ByteArray × Int) : S36 := ⟨p.1, p.2⟩
theorem pick_perm {S R T : List (ByteArray × Int)} (h : (S ++ R).Perm T) (ha : Apart T) {m : ByteArray} {v : Int} (hin : (m, v) ∈ R) : ((S ++ [(m, v)]) ++ delT R m).Perm T := by
  have haR : Apart R := (List.pairwise_append.1 (ha.perm h)).2.1
  rw [List.append_assoc]
  exact ((del_perm_cons haR hin).append_left S).trans h

set_option maxHeartbeats 8000000 in
set_option maxRecDepth 100000 in
theorem list_calls (T : List (ByteArray × Int)) (b : Nat) (w : World) (ho : OwnsT Tryd.prog 9 2 w b T) (hn : T.length ≤ 1000000000) :
    Calls Tryd.prog 31 #[.map (some b)] w fun e w' => ∃ (v : Value) (S : List (ByteArray × Int)), e = .returned v ∧ S.Perm T ∧ Kd.R k36 36 w' (w.heap.size + 1) (fun k => w.heap.size + 1 ≤ k) v ((S.map toE).mergeSort (fun x y => !lessE y x)) ∧ Below w.heap.size w w' := by
  have HO := Aside0.mk ho
  have HN := Aside0.mk hn
  have HA := Aside0.mk ho.1
  have HBL := Aside0.mk ho.lt
  clear ho hn
  go_enter Tryd.func31, Tryd.ntmps31
  go_wp2_with (first | (at_range; refine OwnsT.range HO.out Tryd.underlying9 Tryd.underlying49 rfl _ rfl rfl ?_; intro w1 hr1 hg1 hs1))
  have HR1 := Aside0.mk hr1
  have HB1 : Aside0 (Below w.heap.size w w1) := ⟨(Below.refl _ _).grown hg1 (Nat.le_refl _) (fun k e => by cases e)⟩
  have HS1 := Aside0.mk hs1
  clear hr1 hg1 hs1
  go_frame
  go_loopw [3] (fun v3 wr => ∃ (S R : List (ByteArray × Int)), Aside0 ((S ++ R).Perm T) ∧ Aside0 (RangesT Tryd.prog 9 2 wr b w.heap.size T R) ∧ Aside0 (Kd.R k36 36 wr (w.heap.size + 1) (fun k => w.heap.size + 1 ≤ k) v3 (S.map toE)) ∧ Aside0 (Below w.heap.size w wr) ∧ Aside0 (w.heap.size + 1 ≤ wr.heap.size)) (fun _ wr => wr.rangeLeft b w.heap.size)
  case atStart => exact ⟨[], T, ⟨List.Perm.refl _⟩, HR1, ⟨Kd.R_nil _ _ _ _ _⟩, HB1, ⟨by rw [HS1.out]; exact Nat.le_refl _⟩⟩
  case round =>
    obtain ⟨S, R, HP, HR, HO3, HB, HZ⟩ := hrel
    go_wp2_with (first
      | (at_next; refine wpList_next_T Tryd.underlying9 Tryd.underlying2 rfl _ rfl rfl HR.out ?_ ?_))
    · intro hRe
      subst hRe
      go_wp2_with fail
      refine (sort_row HO3.out (by have := HP.out.length_eq; rw [List.append_nil] at this; rw [List.length_map, this]; have := HN.out; omega)).mono ?_
      rintro e w5 ⟨rfl, hR5, hG5⟩
      have HR5 := Aside0.mk hR5
      have HB5 : Aside0 (Below w.heap.size w w5) := ⟨HB.out.grown hG5 HB.out.size (fun k e => by have := HO3.out.1 k e; omega)⟩
      clear hR5 hG5
      go_wp2
      go_ret
      exact ⟨_, S, rfl, by have := HP.out; rwa [List.append_nil] at this, HR5.out, HB5.out⟩
    · intro m v w' hin hR hg hs hlt hen
      have HR2 := Aside0.mk hR
      have HG := Aside0.mk hg
      have HS2 := Aside0.mk hs
      have HL := Aside0.mk hlt
      have HP2 := Aside0.mk (pick_perm HP.out HA.out hin)
      have HO4 := Aside0.mk (Kd.R_grown HO3.out hg (fun k hk e => by injection e with e; omega))
      have HSL : Aside0 ((S.map toE).length ≤ 1000000000) := ⟨by have := HP.out.length_eq; rw [List.length_append] at this; rw [List.length_map]; have := HN.out; omega⟩
      have HB2 : Aside0 (Below w.heap.size w w') := ⟨HB.out.grown hg HB.out.size (fun k e => by cases e; exact Nat.le_refl _)⟩
      have HZ2 : Aside0 (w.heap.size + 1 ≤ w'.heap.size) := ⟨by rw [hs]; exact HZ.out⟩
      clear hR hg hs hlt hin HR HO3 HB HZ
      go_wp2_with (first | ((with_reducible refine gate_builtin (b := .append) (xs := #[.tmp 13, .tmp 17]) rfl ?_); at_builtin; refine append_e w' (w.heap.size + 1) rfl (.tmp 13) (.tmp 17) rfl _ _ ⟨m, v⟩ rfl rfl HO4.out HZ2.out HSL.out ?_; intro v5 w5 hR5 hB5 hG5; have HR5 := Aside0.mk hR5; have HB5 := Aside0.mk hB5; have HG5 := Aside0.mk hG5; clear hR5 hB5 hG5))
      have hnb : some b ≠ (u3 : Value).ownBlock := fun e => by have := HO4.out.1 b e.symm; have := HBL.out; omega
      have hnr : some w.heap.size ≠ (u3 : Value).ownBlock := fun e => by have := HO4.out.1 _ e.symm; omega
      refine ⟨⟨S ++ [(m, v)], delT R m, HP2, ⟨HR2.out.kept HG5.out hnb hnr⟩, ⟨?_⟩, ⟨HB2.out.trans (HB5.out.mono (by omega))⟩, ⟨Nat.le_trans HZ2.out HB5.out.size⟩⟩, ?_⟩
      · rw [List.map_append]
        exact HR5.out
      · rw [HR2.out.kept_left HG5.out hnb hnr]
        exact HL.out
end Go.Proofs.YtidhbpfkiapcjaaDoor.P
end
/-! algebra.Sort: the entries of a list, the last of each member, in order. -/
section
namespace Go.Proofs.YtidhbpfkiapcjaaDoor.P
open Go.RowKit Go.Lib Go.Proofs.YtidhbpfkiapcjaaDoorW.PrintWords Go.Proofs.YtidhbpfkiapcjaaDoorW.PrintLast Go.Proofs.YtidhbpfkiapcjaaDoorW.PrintMore Go.Proofs.YtidhbpfkiapcjaaDoor.Pure

end Go.Proofs.YtidhbpfkiapcjaaDoor.P
end
