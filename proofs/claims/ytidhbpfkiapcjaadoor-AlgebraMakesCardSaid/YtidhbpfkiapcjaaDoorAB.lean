/- A row of entries of one's own, as slices.SortFunc's contract wants it. -/
import Derived.Test.YtidhbpfkiapcjaaDoorAE
import Derived.Test.YtidhbpfkiapcjaaDoorAI
namespace Go.Proofs.YtidhbpfkiapcjaaDoor.P
open Go.RowKit Go.Lib Go.Sort Go.Proofs.YtidhbpfkiapcjaaDoorW.PrintWords Go.Proofs.YtidhbpfkiapcjaaDoorW.PrintLast Go.Proofs.YtidhbpfkiapcjaaDoorW.PrintMore Go.Proofs.YtidhbpfkiapcjaaDoor.Pure

theorem add_own (g j : Nat) : (⟨g, 0, none⟩ : Addr).add j = ⟨g, j, none⟩ := by
  unfold Addr.add
  by_cases h : j = 0
  · subst h; rfl
  · simp [h]
theorem holds_of_R {w : World} {base g n cap : Nat} {ok : Nat → Prop} {xs : List S36} (h : Kd.R k36 36 w base ok (.slice (some ⟨g, 0, none⟩) n cap) xs) : HoldsK encE 2 w g 0 xs.toArray ∧ g < w.heap.size := by
  obtain ⟨hn, _, hC⟩ := Kd.R_reads' h
  obtain ⟨_, inner, ⟨_, ho⟩, _⟩ := h
  rcases ho with ⟨he, _⟩ | ⟨g', cap', cur, he, _, hb, _⟩
  · cases he
  · injection he with he1 he2 he3
    injection he1 with he1
    injection he1 with he1
    subst he1
    refine ⟨fun t ht => ?_, (Array.getElem?_eq_some_iff.1 hb).1⟩
    refine ⟨?_, by simp [World.frozen?, hb]⟩
    rw [size_flatK] at ht
    rw [id, get_flatK _ _ _ _ ht]
    have hlt : t / 2 < xs.length := by simp at ht; omega
    obtain ⟨ad, e, h1, h2⟩ := at_T36 hC ((t / 2 : Nat) : Int) (by omega) (by omega)
    cases e
    rw [Int.toNat_natCast, rd36_get hlt, add_own] at h1 h2
    have hx : xs.toArray[t / 2]! = xs[t / 2] := by rw [getElem!_pos _ _ (by simpa using hlt)]; simp
    rw [hx]
    have h2' : t % 2 = 0 ∨ t % 2 = 1 := by omega
    rcases h2' with hm | hm
    · rw [hm]
      have : 0 + t = 0 + t / 2 * 2 := by omega
      rw [this]
      simpa [encE] using h1
    · rw [hm]
      have : 0 + t = 0 + t / 2 * 2 + 1 := by omega
      rw [this]
      simpa [encE] using h2
theorem grown_sort (w : World) (g n : Nat) (X : Array S36) (os : Array Obj) : w.grownBy (sortWorldK encE 2 w g 0 n X os) (some g) := by
  refine ⟨rfl, rfl, rfl, ?_, fun k hk hne => ?_⟩
  · show w.heap.size ≤ ((w.heap.modify g _) ++ os).size
    rw [Array.size_append, Array.size_modify]
    omega
  · show ((w.heap.modify g _) ++ os)[k]? = w.heap[k]?
    rw [Array.getElem?_append_left (by rw [Array.size_modify]; exact hk)]
    rw [Array.getElem?_modify, if_neg (fun e => hne (by rw [e]))]
theorem R_sorted {w : World} {base g n cap : Nat} {ok : Nat → Prop} {xs ys : List S36} (h : Kd.R k36 36 w base ok (.slice (some ⟨g, 0, none⟩) n cap) xs) (hl : ys.length = xs.length) (m : Nat) (os : Array Obj) : Kd.R k36 36 (sortWorldK encE 2 w g 0 m ys.toArray os) base ok (.slice (some ⟨g, 0, none⟩) n cap) ys := by
  obtain ⟨hH, hlt⟩ := holds_of_R h
  have hn : n = xs.length := (Kd.R_reads' h).1
  obtain ⟨h0, inner, ⟨hi, ho⟩, hr⟩ := h
  have hH2 : HoldsK encE 2 (sortWorldK encE 2 w g 0 m ys.toArray os) g 0 ys.toArray := holdsK_sortWorldK encE 2 w g 0 m xs.toArray ys.toArray os hlt hH (by simpa using hl)
  rcases ho with ⟨he, _⟩ | ⟨g', cap', cur, he, hbase, hb, hcap, hmax, hsz, htk⟩
  · cases he
  · injection he with he1 he2 he3
    injection he1 with he1
    injection he1 with he1
    subst he1 he3
    obtain ⟨cur', hb', hsz'⟩ : ∃ cur', (sortWorldK encE 2 w g 0 m ys.toArray os).heap[g]? = some (.cells cur' 36 (0, 0)) ∧ cur'.size = cur.size := by
      refine ⟨putCells id 0 (flatK encE 2 ys.toArray) cur, ?_, by unfold putCells; simp⟩
      show ((w.heap.modify g _) ++ os)[g]? = _
      rw [Array.getElem?_append_left (by rw [Array.size_modify]; exact hlt), Array.getElem?_modify, if_pos rfl, hb]
      rfl
    have hcell : ∀ t, t < ys.length * 2 → cur'[t]? = some ((encE ys.toArray[t / 2]!)[t % 2]!) := fun t ht => by
      have h1 := (hH2 t (by rw [size_flatK]; simpa using ht)).1
      rw [id, get_flatK _ _ _ _ (by simpa using ht), Nat.zero_add] at h1
      simpa [World.cell?, hb'] using h1
    have hcs : ys.length * 2 ≤ cur'.size := by rw [hsz', hsz]; show ys.length * 2 ≤ cap * 2; omega
    refine ⟨h0, cur'.toList.take (ys.length * 2), ⟨?_, .inr ⟨g, cap, cur', by rw [hn, hl], hbase, hb', by omega, hmax, by rw [hsz', hsz], rfl⟩⟩, ?_, fun j p hj => ?_⟩
    · show _ = ys.length * 2
      rw [List.length_take, show cur'.toList.length = cur'.size from Array.length_toList]; exact Nat.min_eq_left hcs
    · show _ = ys.length * 2
      rw [List.length_take, show cur'.toList.length = cur'.size from Array.length_toList]; exact Nat.min_eq_left hcs
    · have hjl : j < ys.length := (List.getElem?_eq_some_iff.1 hj).1
      have hp : ys.toArray[j]! = p := by
        rw [getElem!_pos _ _ (by simpa using hjl)]
        simpa using (List.getElem?_eq_some_iff.1 hj).2
      have c0 := hcell (j * 2) (by omega)
      have c1 := hcell (j * 2 + 1) (by omega)
      rw [show j * 2 / 2 = j by omega, show j * 2 % 2 = 0 by omega, hp] at c0
      rw [show (j * 2 + 1) / 2 = j by omega, show (j * 2 + 1) % 2 = 1 by omega, hp] at c1
      have e : ((cur'.toList.take (ys.length * 2)).drop (j * 2)).take 2 = [.string p.f0, .int .i64 p.f1] := by
        apply List.ext_getElem?
        intro i
        rcases i with _ | _ | i
        · rw [List.getElem?_take, if_pos (by omega), List.getElem?_drop, List.getElem?_take, if_pos (by omega), Array.getElem?_toList, Nat.add_zero, c0]; rfl
        · rw [List.getElem?_take, if_pos (by omega), List.getElem?_drop, List.getElem?_take, if_pos (by omega), Array.getElem?_toList, c1]; rfl
        · rw [List.getElem?_take, if_neg (by omega)]; rfl
      show Kd.M k36 _ _ _ p (((cur'.toList.take (ys.length * 2)).drop (j * 2)).take 2)
      rw [e]
      exact k36_mkM _ _ _ p
theorem sort_row {w : World} {base : Nat} {ok : Nat → Prop} {v : Value} {xs : List S36} (h : Kd.R k36 36 w base ok v xs) (hl : xs.length < 4611686018427387904) :
    Calls Tryd.prog 47 #[v, .func (.func 35) #[] #[]] w fun e w' => e = .returned (.tuple #[]) ∧ Kd.R k36 36 w' base ok v (xs.mergeSort (fun x y => !lessE y x)) ∧ w.grownBy w' v.ownBlock := by
  have hc := h
  obtain ⟨h0, inner, ⟨hi, ho⟩, hr⟩ := h
  rcases ho with ⟨rfl, hn⟩ | ⟨g, cap, cur, rfl, hbase, hb, hcap, hmax, hsz, htk⟩
  · obtain rfl : xs = [] := List.eq_nil_of_length_eq_zero hn
    refine (sort_none none 0 _ w).mono ?_
    rintro e w' ⟨rfl, rfl⟩
    exact ⟨rfl, by simpa using hc, ⟨rfl, rfl, rfl, Nat.le_refl _, fun _ _ _ => rfl⟩⟩
  · obtain ⟨hH, hlt⟩ := holds_of_R hc
    have hs := sort_calls g 0 cap xs.toArray w hH hlt (by simpa using hl)
    rw [show xs.toArray.size = xs.length by simp] at hs
    refine hs.mono ?_
    rintro e w' ⟨rfl, m, os, rfl⟩
    have e1 : (fun x y => !(ltOf cmpE) y x) = fun x y => !lessE y x := by funext x y; rw [lt_own]
    rw [e1]
    exact ⟨rfl, R_sorted hc (by simp [List.length_mergeSort]) m os, grown_sort w g m _ os⟩
end Go.Proofs.YtidhbpfkiapcjaaDoor.P
