/- What 'flags.Write' answers: the words of the flags that are set, in their order. Conditions: none. -/
import Derived.Test.YtndjbhibajjaoaaPH8
namespace Go.Proofs.Ytndjbhibajjaoaa.P
open Go.RowKit Go.Shelf Go.Proofs.YtndjbhibajjaoaaW.PrintWords Go.Proofs.YtndjbhibajjaoaaW.PrintLast Go.Proofs.YtndjbhibajjaoaaW.PrintMore

/-- The words of the first k flags that are set. -/
def outW (fl : Nat → Bool) (k : Nat) : List ByteArray := ((List.range k).filter fl).map wd
theorem outW_yes {fl : Nat → Bool} {k : Nat} (h : fl k = true) : outW fl (k + 1) = outW fl k ++ [wd k] := by simp [outW, List.range_succ, List.filter_append, h]
theorem outW_no {fl : Nat → Bool} {k : Nat} (h : fl k = false) : outW fl (k + 1) = outW fl k := by simp [outW, List.range_succ, List.filter_append, h]
theorem outW_len (fl : Nat → Bool) (k : Nat) : (outW fl k).length ≤ k := by
  unfold outW
  rw [List.length_map]
  exact Nat.le_trans (List.length_filter_le _ _) (by simp)
theorem info9s : (Try.prog.info? 9).map (fun i => (i.zero, i.size, i.bytes)) = some (some (.string ⟨#[]⟩), 1, 16) := by kernel_rfl
theorem append_str {ops : Array Oper} {rest : List Oper} {o : Oper} {a : Act} {Q : Exit → Act → World → Prop} {w0 W : World} {b1 : Nat} {cs : Array Value} (hgd : o.guard = none) (x y : Operand) (ho : o.op = .call { callee := .builtin .append, args := #[x, y], argTypes := #[31, 31] })
    (v : Value) (out : List ByteArray) (p : ByteArray) (hs : a.eval x = v) (hx : a.eval y = .slice (some ⟨W.heap.size, 0, none⟩) 1 1)
    (HO : Kd.R Kd.string 9 W w0.heap.size (fun _ => True) v out) (HA : Blk W b1 23 cs) (HB : Below w0.heap.size w0 W) (hl : out.length ≤ 2000)
    (h : ∀ v1 w1, Kd.R Kd.string 9 w1 w0.heap.size (fun _ => True) v1 (out ++ [p]) → Blk w1 b1 23 cs → Below w0.heap.size w0 w1 → wpList Try.prog ops Q rest (a.put o.dst v1) w1) :
    wpList Try.prog ops Q (o :: rest) a (W.alloc (.cells #[.string p] 9)) :=
  Kd.R_append Kd.string (w0 := w0) (W := W) w0.heap.size hgd x y 31 9 (.string ⟨#[]⟩) 16 ho Try.underlying31 info9s rfl (Nat.lt_succ_self 0) (by omega) v out p [.string p] (fun _ => True) (fun _ => False) hs hx rfl (fun _ hk => hk.elim) (fun _ _ => trivial) HO HB HB.size (by omega)
    (fun v1 w1 h1 h2 h3 _ => h v1 w1 h1 ((h3.block b1 HA.lt (Kd.R_ne HO HA (by decide))).trans HA) h2)
set_option maxHeartbeats 8000000 in
set_option maxRecDepth 100000 in
theorem write_calls (fl : Nat → Bool) (w : World) :
    Calls Try.prog 18 #[.agg #[.bool (fl 0), .bool (fl 1), .bool (fl 2), .bool (fl 3), .bool (fl 4), .bool (fl 5)]] w fun e w' => ∃ v, e = .returned v ∧ Kd.R Kd.string 9 w' w.heap.size (fun _ => True) v (outW fl 6) ∧ Below w.heap.size w w' := by
  go_enter Try.func18, Try.ntmps18
  go_wp2_with fail
  refine (words_calls _).mono ?_
  rintro e w1 ⟨rfl, hb1⟩
  unfold wvs
  have hbk : Blk w1 w.heap.size 23 #[.bool (fl 0), .bool (fl 1), .bool (fl 2), .bool (fl 3), .bool (fl 4), .bool (fl 5)] := (Blk.new w 23 _).below hb1
  have HBk := Aside0.mk hbk
  have hbw : Below w.heap.size w w1 := (below_alloc (Below.refl _ _) _).trans (hb1.mono (by simp))
  have HBw := Aside0.mk hbw
  clear hbk hbw hb1
  go_wp2
  go_loopg [3, 7] 6 (fun gg v3 v7 wr => ∃ k : Nat, v7 = .int .i64 k ∧ k ≤ 6 ∧ 6 - k ≤ gg ∧ Aside0 (Kd.R Kd.string 9 wr w.heap.size (fun _ => True) v3 (outW fl k)) ∧ Aside0 (Blk wr w.heap.size 23 #[.bool (fl 0), .bool (fl 1), .bool (fl 2), .bool (fl 3), .bool (fl 4), .bool (fl 5)]) ∧ Aside0 (Below w.heap.size w wr))
  case atStart => exact ⟨0, rfl, by omega, by omega, ⟨Kd.R_nil _ _ _ _ _⟩, HBk, HBw⟩
  case round =>
    obtain ⟨k, rfl, hk, hg, HR, HBk, HBw⟩ := hrel
    obtain ⟨Ao, co, rfl⟩ := Kd.R_slice HR.out
    have hsw : w.heap.size < wr.heap.size := HBk.out.lt
    have hk7 : k = 0 ∨ k = 1 ∨ k = 2 ∨ k = 3 ∨ k = 4 ∨ k = 5 ∨ k = 6 := by omega
    rcases hk7 with rfl | rfl | rfl | rfl | rfl | rfl | rfl
    · have hix := wvs_at0
      have hat := at_calls ⟨0, by omega⟩ w.heap.size (wr.alloc (.cells #[.string ⟨#[78, 88]⟩, .func (.func 29) #[] #[]] 46))
      have hbA := HBk.out.alloc (.cells #[.string ⟨#[78, 88]⟩, .func (.func 29) #[] #[]] 46)
      have hcell : (wr.alloc (.cells #[.string ⟨#[78, 88]⟩, .func (.func 29) #[] #[]] 46)).cell? ⟨w.heap.size, 0, none⟩ = some (.bool (fl 0)) := hbA.cell 0
      have hcell0 : wr.cell? ⟨w.heap.size, 0, none⟩ = some (.bool (fl 0)) := HBk.out.cell 0
      have HBA := Aside0.mk hbA
      have HBB := Aside0.mk (below_alloc HBw.out (.cells #[.string ⟨#[78, 88]⟩, .func (.func 29) #[] #[]] 46))
      have HRA := Aside0.mk (Kd.R_alloc HR.out (.cells #[.string ⟨#[78, 88]⟩, .func (.func 29) #[] #[]] 46))
      have hln := outW_len fl 0
      clear hbA
      rcases (by cases fl 0 <;> simp : fl 0 = false ∨ fl 0 = true) with hf | hf
      · rw [hf] at hcell hcell0
        have HON := Aside0.mk (outW_no hf)
        clear hf
        go_wp2_with fail
        refine hat.mono ?_
        rintro e w2 ⟨rfl, rfl⟩
        go_wp2
        go_roundg (6 - 1)
        case measure => omega
        case rel => exact ⟨1, by go_num, by omega, by omega, ⟨by rw [HON.out]; exact HRA.out⟩, HBA, HBB⟩
      · rw [hf] at hcell hcell0
        have HON := Aside0.mk (outW_yes hf)
        clear hf
        go_wp2_with fail
        refine hat.mono ?_
        rintro e w2 ⟨rfl, rfl⟩
        have hx0 : (wr.alloc (.cells #[.string ⟨#[78, 88]⟩, .func (.func 29) #[] #[]] 46)).cell? ⟨wr.heap.size, 0, none⟩ = some (.string ⟨#[78, 88]⟩) := by simp
        have hsz : (wr.alloc (.cells #[.string ⟨#[78, 88]⟩, .func (.func 29) #[] #[]] 46)).heap.size = wr.heap.size + 1 := by simp
        generalize hW2 : World.alloc wr _ = W2 at HRA HBA HBB hx0 hsz hcell ⊢
        clear hW2
        have HSZ := Aside0.mk hsz
        clear hsz
        go_wp2_with (first | ((with_reducible refine gate_builtin (b := .append) (xs := #[.tmp 15, .tmp 18]) rfl ?_); at_builtin; refine append_str (w0 := w) rfl (.tmp 15) (.tmp 18) rfl _ (outW fl 0) ⟨#[78, 88]⟩ rfl rfl HRA.out HBA.out HBB.out (by omega) ?_; intro v1 w3 hR3 hB3 hW3))
        go_roundg (6 - 1)
        case measure => omega
        case rel => exact ⟨1, by go_num, by omega, by omega, ⟨by rw [HON.out]; exact hR3⟩, ⟨hB3⟩, ⟨hW3⟩⟩
    · have hix := wvs_at1
      have hat := at_calls ⟨1, by omega⟩ w.heap.size (wr.alloc (.cells #[.string ⟨#[88, 88]⟩, .func (.func 30) #[] #[]] 46))
      have hbA := HBk.out.alloc (.cells #[.string ⟨#[88, 88]⟩, .func (.func 30) #[] #[]] 46)
      have hcell : (wr.alloc (.cells #[.string ⟨#[88, 88]⟩, .func (.func 30) #[] #[]] 46)).cell? ⟨w.heap.size, 1, none⟩ = some (.bool (fl 1)) := hbA.cell 1
      have hcell0 : wr.cell? ⟨w.heap.size, 1, none⟩ = some (.bool (fl 1)) := HBk.out.cell 1
      have HBA := Aside0.mk hbA
      have HBB := Aside0.mk (below_alloc HBw.out (.cells #[.string ⟨#[88, 88]⟩, .func (.func 30) #[] #[]] 46))
      have HRA := Aside0.mk (Kd.R_alloc HR.out (.cells #[.string ⟨#[88, 88]⟩, .func (.func 30) #[] #[]] 46))
      have hln := outW_len fl 1
      clear hbA
      rcases (by cases fl 1 <;> simp : fl 1 = false ∨ fl 1 = true) with hf | hf
      · rw [hf] at hcell hcell0
        have HON := Aside0.mk (outW_no hf)
        clear hf
        go_wp2_with fail
        refine hat.mono ?_
        rintro e w2 ⟨rfl, rfl⟩
        go_wp2
        go_roundg (6 - 2)
        case measure => omega
        case rel => exact ⟨2, by go_num, by omega, by omega, ⟨by rw [HON.out]; exact HRA.out⟩, HBA, HBB⟩
      · rw [hf] at hcell hcell0
        have HON := Aside0.mk (outW_yes hf)
        clear hf
        go_wp2_with fail
        refine hat.mono ?_
        rintro e w2 ⟨rfl, rfl⟩
        have hx0 : (wr.alloc (.cells #[.string ⟨#[88, 88]⟩, .func (.func 30) #[] #[]] 46)).cell? ⟨wr.heap.size, 0, none⟩ = some (.string ⟨#[88, 88]⟩) := by simp
        have hsz : (wr.alloc (.cells #[.string ⟨#[88, 88]⟩, .func (.func 30) #[] #[]] 46)).heap.size = wr.heap.size + 1 := by simp
        generalize hW2 : World.alloc wr _ = W2 at HRA HBA HBB hx0 hsz hcell ⊢
        clear hW2
        have HSZ := Aside0.mk hsz
        clear hsz
        go_wp2_with (first | ((with_reducible refine gate_builtin (b := .append) (xs := #[.tmp 15, .tmp 18]) rfl ?_); at_builtin; refine append_str (w0 := w) rfl (.tmp 15) (.tmp 18) rfl _ (outW fl 1) ⟨#[88, 88]⟩ rfl rfl HRA.out HBA.out HBB.out (by omega) ?_; intro v1 w3 hR3 hB3 hW3))
        go_roundg (6 - 2)
        case measure => omega
        case rel => exact ⟨2, by go_num, by omega, by omega, ⟨by rw [HON.out]; exact hR3⟩, ⟨hB3⟩, ⟨hW3⟩⟩
    · have hix := wvs_at2
      have hat := at_calls ⟨2, by omega⟩ w.heap.size (wr.alloc (.cells #[.string ⟨#[71, 84]⟩, .func (.func 31) #[] #[]] 46))
      have hbA := HBk.out.alloc (.cells #[.string ⟨#[71, 84]⟩, .func (.func 31) #[] #[]] 46)
      have hcell : (wr.alloc (.cells #[.string ⟨#[71, 84]⟩, .func (.func 31) #[] #[]] 46)).cell? ⟨w.heap.size, 2, none⟩ = some (.bool (fl 2)) := hbA.cell 2
      have hcell0 : wr.cell? ⟨w.heap.size, 2, none⟩ = some (.bool (fl 2)) := HBk.out.cell 2
      have HBA := Aside0.mk hbA
      have HBB := Aside0.mk (below_alloc HBw.out (.cells #[.string ⟨#[71, 84]⟩, .func (.func 31) #[] #[]] 46))
      have HRA := Aside0.mk (Kd.R_alloc HR.out (.cells #[.string ⟨#[71, 84]⟩, .func (.func 31) #[] #[]] 46))
      have hln := outW_len fl 2
      clear hbA
      rcases (by cases fl 2 <;> simp : fl 2 = false ∨ fl 2 = true) with hf | hf
      · rw [hf] at hcell hcell0
        have HON := Aside0.mk (outW_no hf)
        clear hf
        go_wp2_with fail
        refine hat.mono ?_
        rintro e w2 ⟨rfl, rfl⟩
        go_wp2
        go_roundg (6 - 3)
        case measure => omega
        case rel => exact ⟨3, by go_num, by omega, by omega, ⟨by rw [HON.out]; exact HRA.out⟩, HBA, HBB⟩
      · rw [hf] at hcell hcell0
        have HON := Aside0.mk (outW_yes hf)
        clear hf
        go_wp2_with fail
        refine hat.mono ?_
        rintro e w2 ⟨rfl, rfl⟩
        have hx0 : (wr.alloc (.cells #[.string ⟨#[71, 84]⟩, .func (.func 31) #[] #[]] 46)).cell? ⟨wr.heap.size, 0, none⟩ = some (.string ⟨#[71, 84]⟩) := by simp
        have hsz : (wr.alloc (.cells #[.string ⟨#[71, 84]⟩, .func (.func 31) #[] #[]] 46)).heap.size = wr.heap.size + 1 := by simp
        generalize hW2 : World.alloc wr _ = W2 at HRA HBA HBB hx0 hsz hcell ⊢
        clear hW2
        have HSZ := Aside0.mk hsz
        clear hsz
        go_wp2_with (first | ((with_reducible refine gate_builtin (b := .append) (xs := #[.tmp 15, .tmp 18]) rfl ?_); at_builtin; refine append_str (w0 := w) rfl (.tmp 15) (.tmp 18) rfl _ (outW fl 2) ⟨#[71, 84]⟩ rfl rfl HRA.out HBA.out HBB.out (by omega) ?_; intro v1 w3 hR3 hB3 hW3))
        go_roundg (6 - 3)
        case measure => omega
        case rel => exact ⟨3, by go_num, by omega, by omega, ⟨by rw [HON.out]; exact hR3⟩, ⟨hB3⟩, ⟨hW3⟩⟩
    · have hix := wvs_at3
      have hat := at_calls ⟨3, by omega⟩ w.heap.size (wr.alloc (.cells #[.string ⟨#[76, 84]⟩, .func (.func 32) #[] #[]] 46))
      have hbA := HBk.out.alloc (.cells #[.string ⟨#[76, 84]⟩, .func (.func 32) #[] #[]] 46)
      have hcell : (wr.alloc (.cells #[.string ⟨#[76, 84]⟩, .func (.func 32) #[] #[]] 46)).cell? ⟨w.heap.size, 3, none⟩ = some (.bool (fl 3)) := hbA.cell 3
      have hcell0 : wr.cell? ⟨w.heap.size, 3, none⟩ = some (.bool (fl 3)) := HBk.out.cell 3
      have HBA := Aside0.mk hbA
      have HBB := Aside0.mk (below_alloc HBw.out (.cells #[.string ⟨#[76, 84]⟩, .func (.func 32) #[] #[]] 46))
      have HRA := Aside0.mk (Kd.R_alloc HR.out (.cells #[.string ⟨#[76, 84]⟩, .func (.func 32) #[] #[]] 46))
      have hln := outW_len fl 3
      clear hbA
      rcases (by cases fl 3 <;> simp : fl 3 = false ∨ fl 3 = true) with hf | hf
      · rw [hf] at hcell hcell0
        have HON := Aside0.mk (outW_no hf)
        clear hf
        go_wp2_with fail
        refine hat.mono ?_
        rintro e w2 ⟨rfl, rfl⟩
        go_wp2
        go_roundg (6 - 4)
        case measure => omega
        case rel => exact ⟨4, by go_num, by omega, by omega, ⟨by rw [HON.out]; exact HRA.out⟩, HBA, HBB⟩
      · rw [hf] at hcell hcell0
        have HON := Aside0.mk (outW_yes hf)
        clear hf
        go_wp2_with fail
        refine hat.mono ?_
        rintro e w2 ⟨rfl, rfl⟩
        have hx0 : (wr.alloc (.cells #[.string ⟨#[76, 84]⟩, .func (.func 32) #[] #[]] 46)).cell? ⟨wr.heap.size, 0, none⟩ = some (.string ⟨#[76, 84]⟩) := by simp
        have hsz : (wr.alloc (.cells #[.string ⟨#[76, 84]⟩, .func (.func 32) #[] #[]] 46)).heap.size = wr.heap.size + 1 := by simp
        generalize hW2 : World.alloc wr _ = W2 at HRA HBA HBB hx0 hsz hcell ⊢
        clear hW2
        have HSZ := Aside0.mk hsz
        clear hsz
        go_wp2_with (first | ((with_reducible refine gate_builtin (b := .append) (xs := #[.tmp 15, .tmp 18]) rfl ?_); at_builtin; refine append_str (w0 := w) rfl (.tmp 15) (.tmp 18) rfl _ (outW fl 3) ⟨#[76, 84]⟩ rfl rfl HRA.out HBA.out HBB.out (by omega) ?_; intro v1 w3 hR3 hB3 hW3))
        go_roundg (6 - 4)
        case measure => omega
        case rel => exact ⟨4, by go_num, by omega, by omega, ⟨by rw [HON.out]; exact hR3⟩, ⟨hB3⟩, ⟨hW3⟩⟩
    · have hix := wvs_at4
      have hat := at_calls ⟨4, by omega⟩ w.heap.size (wr.alloc (.cells #[.string ⟨#[67, 72]⟩, .func (.func 33) #[] #[]] 46))
      have hbA := HBk.out.alloc (.cells #[.string ⟨#[67, 72]⟩, .func (.func 33) #[] #[]] 46)
      have hcell : (wr.alloc (.cells #[.string ⟨#[67, 72]⟩, .func (.func 33) #[] #[]] 46)).cell? ⟨w.heap.size, 4, none⟩ = some (.bool (fl 4)) := hbA.cell 4
      have hcell0 : wr.cell? ⟨w.heap.size, 4, none⟩ = some (.bool (fl 4)) := HBk.out.cell 4
      have HBA := Aside0.mk hbA
      have HBB := Aside0.mk (below_alloc HBw.out (.cells #[.string ⟨#[67, 72]⟩, .func (.func 33) #[] #[]] 46))
      have HRA := Aside0.mk (Kd.R_alloc HR.out (.cells #[.string ⟨#[67, 72]⟩, .func (.func 33) #[] #[]] 46))
      have hln := outW_len fl 4
      clear hbA
      rcases (by cases fl 4 <;> simp : fl 4 = false ∨ fl 4 = true) with hf | hf
      · rw [hf] at hcell hcell0
        have HON := Aside0.mk (outW_no hf)
        clear hf
        go_wp2_with fail
        refine hat.mono ?_
        rintro e w2 ⟨rfl, rfl⟩
        go_wp2
        go_roundg (6 - 5)
        case measure => omega
        case rel => exact ⟨5, by go_num, by omega, by omega, ⟨by rw [HON.out]; exact HRA.out⟩, HBA, HBB⟩
      · rw [hf] at hcell hcell0
        have HON := Aside0.mk (outW_yes hf)
        clear hf
        go_wp2_with fail
        refine hat.mono ?_
        rintro e w2 ⟨rfl, rfl⟩
        have hx0 : (wr.alloc (.cells #[.string ⟨#[67, 72]⟩, .func (.func 33) #[] #[]] 46)).cell? ⟨wr.heap.size, 0, none⟩ = some (.string ⟨#[67, 72]⟩) := by simp
        have hsz : (wr.alloc (.cells #[.string ⟨#[67, 72]⟩, .func (.func 33) #[] #[]] 46)).heap.size = wr.heap.size + 1 := by simp
        generalize hW2 : World.alloc wr _ = W2 at HRA HBA HBB hx0 hsz hcell ⊢
        clear hW2
        have HSZ := Aside0.mk hsz
        clear hsz
        go_wp2_with (first | ((with_reducible refine gate_builtin (b := .append) (xs := #[.tmp 15, .tmp 18]) rfl ?_); at_builtin; refine append_str (w0 := w) rfl (.tmp 15) (.tmp 18) rfl _ (outW fl 4) ⟨#[67, 72]⟩ rfl rfl HRA.out HBA.out HBB.out (by omega) ?_; intro v1 w3 hR3 hB3 hW3))
        go_roundg (6 - 5)
        case measure => omega
        case rel => exact ⟨5, by go_num, by omega, by omega, ⟨by rw [HON.out]; exact hR3⟩, ⟨hB3⟩, ⟨hW3⟩⟩
    · have hix := wvs_at5
      have hat := at_calls ⟨5, by omega⟩ w.heap.size (wr.alloc (.cells #[.string ⟨#[73, 78, 67, 82]⟩, .func (.func 34) #[] #[]] 46))
      have hbA := HBk.out.alloc (.cells #[.string ⟨#[73, 78, 67, 82]⟩, .func (.func 34) #[] #[]] 46)
      have hcell : (wr.alloc (.cells #[.string ⟨#[73, 78, 67, 82]⟩, .func (.func 34) #[] #[]] 46)).cell? ⟨w.heap.size, 5, none⟩ = some (.bool (fl 5)) := hbA.cell 5
      have hcell0 : wr.cell? ⟨w.heap.size, 5, none⟩ = some (.bool (fl 5)) := HBk.out.cell 5
      have HBA := Aside0.mk hbA
      have HBB := Aside0.mk (below_alloc HBw.out (.cells #[.string ⟨#[73, 78, 67, 82]⟩, .func (.func 34) #[] #[]] 46))
      have HRA := Aside0.mk (Kd.R_alloc HR.out (.cells #[.string ⟨#[73, 78, 67, 82]⟩, .func (.func 34) #[] #[]] 46))
      have hln := outW_len fl 5
      clear hbA
      rcases (by cases fl 5 <;> simp : fl 5 = false ∨ fl 5 = true) with hf | hf
      · rw [hf] at hcell hcell0
        have HON := Aside0.mk (outW_no hf)
        clear hf
        go_wp2_with fail
        refine hat.mono ?_
        rintro e w2 ⟨rfl, rfl⟩
        go_wp2
        go_roundg (6 - 6)
        case measure => omega
        case rel => exact ⟨6, by go_num, by omega, by omega, ⟨by rw [HON.out]; exact HRA.out⟩, HBA, HBB⟩
      · rw [hf] at hcell hcell0
        have HON := Aside0.mk (outW_yes hf)
        clear hf
        go_wp2_with fail
        refine hat.mono ?_
        rintro e w2 ⟨rfl, rfl⟩
        have hx0 : (wr.alloc (.cells #[.string ⟨#[73, 78, 67, 82]⟩, .func (.func 34) #[] #[]] 46)).cell? ⟨wr.heap.size, 0, none⟩ = some (.string ⟨#[73, 78, 67, 82]⟩) := by simp
        have hsz : (wr.alloc (.cells #[.string ⟨#[73, 78, 67, 82]⟩, .func (.func 34) #[] #[]] 46)).heap.size = wr.heap.size + 1 := by simp
        generalize hW2 : World.alloc wr _ = W2 at HRA HBA HBB hx0 hsz hcell ⊢
        clear hW2
        have HSZ := Aside0.mk hsz
        clear hsz
        go_wp2_with (first | ((with_reducible refine gate_builtin (b := .append) (xs := #[.tmp 15, .tmp 18]) rfl ?_); at_builtin; refine append_str (w0 := w) rfl (.tmp 15) (.tmp 18) rfl _ (outW fl 5) ⟨#[73, 78, 67, 82]⟩ rfl rfl HRA.out HBA.out HBB.out (by omega) ?_; intro v1 w3 hR3 hB3 hW3))
        go_roundg (6 - 6)
        case measure => omega
        case rel => exact ⟨6, by go_num, by omega, by omega, ⟨by rw [HON.out]; exact hR3⟩, ⟨hB3⟩, ⟨hW3⟩⟩
    · go_wp2
      go_ret
      exact ⟨_, rfl, HR.out, HBw.out⟩
/-- The flags, by their numbers. -/
def flN (x0 x1 x2 x3 x4 x5 : Bool) : Nat → Bool
  | 0 => x0
  | 1 => x1
  | 2 => x2
  | 3 => x3
  | 4 => x4
  | _ => x5
def flags_Write.f (a0_0 a0_1 a0_2 a0_3 a0_4 a0_5 : Bool) : Option (List ByteArray) := some (outW (flN a0_0 a0_1 a0_2 a0_3 a0_4 a0_5) 6)
theorem flags_Write.calls (a0_0 a0_1 a0_2 a0_3 a0_4 a0_5 : Bool) (r : List ByteArray) (w : World) (h : flags_Write.f a0_0 a0_1 a0_2 a0_3 a0_4 a0_5 = some r) :
    Calls Try.prog 18 #[.agg #[.bool a0_0, .bool a0_1, .bool a0_2, .bool a0_3, .bool a0_4, .bool a0_5]] w fun e w' => ∃ v0_ : Value, e = .returned (v0_) ∧ Kd.R Kd.string 9 w' w.heap.size (fun _ => True) v0_ r ∧ Below w.heap.size w w' := by
  obtain rfl := Option.some.inj h
  exact write_calls (flN a0_0 a0_1 a0_2 a0_3 a0_4 a0_5) w
end Go.Proofs.Ytndjbhibajjaoaa.P
