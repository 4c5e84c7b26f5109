/- Back: the links back. Conditions: each theorem names its own. -/
import Derived.Test.YtnlbdmiflihghaaSKL
namespace Go.Proofs.Ytnlbdmiflihghaa.P
open Go.RowKit Go.Shelf Go.Proofs.YtnlbdmiflihghaaW.PrintWords Go.Proofs.YtnlbdmiflihghaaW.PrintLast Go.Proofs.YtnlbdmiflihghaaW.PrintMore Go.Proofs.Ytnlbdmiflihghaa.SK
attribute [local go_sem] Oper.semAt_some

theorem back_step (L : List En) (i T : Nat) (h1 : i < T) (h2 : T ≤ L.length) : ((L.drop (T - (i + 1))).take (i + 1)).reverse = ((L.drop (T - i)).take i).reverse ++ [L.getD (T - i - 1) zE] := by
  rw [List.drop_eq_getElem_cons (by omega : T - (i + 1) < L.length), List.take_succ_cons, List.reverse_cons, show T - (i + 1) + 1 = T - i by omega, List.getD_eq_getElem?_getD, List.getElem?_eq_getElem (by omega)]
  congr 2
set_option maxHeartbeats 8000000 in
set_option maxRecDepth 100000 in
theorem ls_back {w : World} {b : Nat} {F : List Nat} {p : Pl2} (h : Ls w b F p) (hsm : p.1.length < 1000) (f t : Int) : Calls Try.prog 28 #[.pointer (some ⟨b, 0, none⟩), .int .i64 f, .int .i64 t] w fun r w' => ∃ v, r = .returned v ∧ RowE w' w.heap.size v (rangeP p f t).reverse ∧ Below w.heap.size w w' := by
  have hl := h.len
  obtain ⟨A, T, hF, hT, hFT, hTn⟩ := in_nat p.1.length f t
  have hw := within_of (some ⟨b, 0, none⟩) p.1.length f t w (ls_len h)
  rw [hF, hT] at hw
  unfold rangeP
  rw [hF, hT]
  show Calls _ _ _ _ fun r w' => ∃ v, r = .returned v ∧ RowE w' w.heap.size v ((p.1.drop A).take (T - A)).reverse ∧ Below w.heap.size w w'
  obtain ⟨σ, h1, h2, h3, h4, h5⟩ := h.ex
  have hlen : F.length = p.1.length := hl.1
  have HS := Aside0.mk h1
  have HX := Aside0.mk h2
  have HE := Aside0.mk h4
  have hnl := h2.len
  rw [← hlen] at hTn hsm
  have HLEN := Aside0.mk hlen
  clear hF hT h h1 h2 h3 h4 h5 hl hlen
  go_enter Try.func28, Try.ntmps28
  go_wp2_with fail
  refine hw.mono ?_
  rintro r w1 ⟨rfl, rfl⟩
  clear hw
  by_cases hq : A = T
  · subst hq
    go_wp2
    go_ret
    refine ⟨_, rfl, ?_, Below.refl _ _⟩
    rw [Nat.sub_self, List.take_zero]
    exact rowE_nil _ _
  · have hq' : ((A : Nat) : Int) ≠ (T : Nat) := by omega
    have hlst := HS.out.last_
    rw [HX.out.lst, if_neg (by omega)] at hlst
    replace hlst : w1.cell? ⟨b, 68, none⟩ = some (.pointer (some ⟨nd b F F.length, 0, none⟩)) := hlst
    have hn := HS.out.n_
    rw [hnl] at hn
    have hz : IntKind.i64.wrap ((F.length : Int) - (T : Int)) = ((F.length - T : Nat) : Int) := by
      rw [show (F.length : Int) - (T : Int) = ((F.length - T : Nat) : Int) by omega]
      exact IntWalk.i64_in _ (by omega)
    go_wp2
    clear hlst hn hz
    obtain ⟨N, hN⟩ : ∃ N, F.length - T = N := ⟨_, rfl⟩
    rw [hN]
    have HN := Aside0.mk hN
    have hNl : N + T = F.length := by omega
    clear hN
    go_loopg [8, 29] N (fun gk v8 v29 wr => wr = w1 ∧ ∃ i : Nat, v29 = .int .i64 (i : Int) ∧ i ≤ N ∧ gk = N - i ∧ v8 = .pointer (some ⟨nd b F (F.length - i), 0, none⟩))
    case atStart => exact ⟨rfl, 0, rfl, Nat.zero_le _, rfl, rfl⟩
    case round =>
      obtain ⟨hwr, i, rfl, hi, hgk, rfl⟩ := hrel
      have hwr2 := hwr.symm
      clear hwr
      subst hwr2
      by_cases hiN : i < N
      · have hiz : (i : Int) < (N : Int) := by omega
        have hb := HS.out.bk_ (nd_mem' (b := b) (show 1 ≤ F.length - i by omega) (show F.length - i ≤ F.length by omega))
        rw [HX.out.bks _ (by omega) (by omega), if_neg (by omega), show F.length - i - 1 = F.length - (i + 1) by omega] at hb
        replace hb : w1.cell? ⟨nd b F (F.length - i), 67, none⟩ = some (.pointer (some ⟨nd b F (F.length - (i + 1)), 0, none⟩)) := hb
        go_wp2
        go_roundg (N - (i + 1))
        case measure => omega
        case rel => exact ⟨rfl, i + 1, congrArg (Value.int .i64) (by first | exact wrap_succ i (by omega) | omega), by omega, rfl, rfl⟩
      · have hiz : ¬ (i : Int) < (N : Int) := by omega
        obtain rfl : i = N := by omega
        rw [show F.length - i = T by omega]
        have hz : IntKind.i64.wrap ((T : Int) - (A : Int)) = ((T - A : Nat) : Int) := by
          rw [show (T : Int) - (A : Int) = ((T - A : Nat) : Int) by omega]
          exact IntWalk.i64_in _ (by omega)
        clear hgk hi
        go_wp2
        clear hz
        obtain ⟨M, hM⟩ : ∃ M, T - A = M := ⟨_, rfl⟩
        rw [hM]
        have HM := Aside0.mk hM
        have hML : M + A = T := by omega
        clear hM
        go_loopg [7, 8, 39] M (fun gk v7 v8 v39 w2 => ∃ j : Nat, v39 = .int .i64 (j : Int) ∧ j ≤ M ∧ gk = M - j ∧ v8 = ptr (if T - j = 0 then none else some (nd b F (T - j))) ∧ Aside0 (RowE w2 w1.heap.size v7 ((p.1.drop (T - j)).take j).reverse) ∧ Aside0 (Below w1.heap.size w1 w2))
        case atStart => exact ⟨0, rfl, Nat.zero_le _, rfl, by rw [if_neg (by omega)]; rfl, ⟨by rw [List.take_zero]; exact rowE_nil _ _⟩, ⟨Below.refl _ _⟩⟩
        case round =>
          obtain ⟨j, rfl, hj, hgk, rfl, HR, HB⟩ := hrel
          obtain ⟨A7, c7, hv, _, _⟩ := HR.out.reads
          generalize hLe : List.length _ = m at hv
          have HLE := Aside0.mk hLe
          clear hLe
          subst hv
          by_cases hjM : j < M
          · have hjz : (j : Int) < (M : Int) := by omega
            have hm := nd_mem' (b := b) (show 1 ≤ T - j by omega) (show T - j ≤ F.length by omega)
            have hSr := HS.out.below HB.out
            have hme := hSr.member_ hm
            have hsc := hSr.score_ hm
            have hbk := hSr.bk_ hm
            rw [HX.out.bks _ (by omega) (by omega)] at hbk
            have hent : σ.E (nd b F (T - j)) = p.1.getD (T - j - 1) zE := by
              have := ent_get (b := b) HE.out (show T - j - 1 < F.length by omega)
              unfold entAt at this
              rwa [show T - j - 1 + 1 = T - j by omega] at this
            have hbv : (if T - j = 1 then none else some (nd b F (T - j - 1))) = (if T - (j + 1) = 0 then none else some (nd b F (T - (j + 1)))) := by
              rw [show T - j - 1 = T - (j + 1) by omega]
              by_cases h9 : T - j = 1
              · rw [if_pos h9, if_pos (by omega)]
              · rw [if_neg h9, if_neg (by omega)]
            rw [hbv, ptr_eq2] at hbk
            have hpl : ((p.1.drop (T - j)).take j).reverse.length ≤ 1000 := by rw [List.length_reverse, List.length_take]; omega
            have hLt : ∀ c, c ∈ b :: F → c < w1.heap.size := fun c hc => HS.out.lt hc
            have hnl2 := hLt _ (List.mem_cons_of_mem _ hm)
            have HKB : Aside0 (∀ v1 w5, RowE w5 w1.heap.size v1 (((p.1.drop (T - j)).take j).reverse ++ [σ.E (nd b F (T - j))]) → (wr.alloc (.cells #[.string (σ.E (nd b F (T - j))).1, .int .i64 (σ.E (nd b F (T - j))).2] 28)).grownBy w5 (Value.slice A7 m c7).ownBlock →
                (∃ A1 m1 c1, v1 = .slice A1 m1 c1) ∧ w5.cell? ⟨nd b F (T - j), 67, none⟩ = some (.pointer ((if T - (j + 1) = 0 then none else some (nd b F (T - (j + 1)))).map fun c => ⟨c, 0, none⟩)) ∧ RowE w5 w1.heap.size v1 ((p.1.drop (T - (j + 1))).take (j + 1)).reverse ∧ Below w1.heap.size w1 w5) := ⟨by
              intro v1 w5 hR5 hg5
              obtain ⟨A1, c1', hv1, _, _⟩ := hR5.reads
              have hb5 : Below w1.heap.size w1 w5 := (HB.out.alloc HB.out.size _).grown hg5 (by rw [World.size_alloc]; have := HB.out.size; omega) (fun k hk => (HR.out.lt k hk).1)
              have hbk5 := (HS.out.below hb5).bk_ hm
              rw [HX.out.bks _ (by omega) (by omega), hbv, ptr_eq2] at hbk5
              refine ⟨⟨A1, _, c1', hv1⟩, hbk5, ?_, hb5⟩
              rw [back_step p.1 j T (by omega) (by rw [← HLEN.out]; omega), ← hent]
              exact hR5⟩
            rw [if_neg (show ¬ T - j = 0 by omega), show ptr (some (nd b F (T - j))) = .pointer (some ⟨nd b F (T - j), 0, none⟩) from rfl]
            clear hm hSr hbv hent hnl2 hLt hbk
            generalize hpp : Option.map _ _ = Pn at HKB
            have HPP := Aside0.mk hpp
            clear hpp
            generalize hee : σ.E (nd b F (T - j)) = ee at hme hsc HKB
            generalize hcc : nd b F (T - j) = cc at hme hsc HKB ⊢
            have hsz2 : w1.heap.size ≤ wr.heap.size := HB.out.size
            clear hee hcc
            go_wp2_with (first | ((with_reducible refine gate_builtin (b := .append) (xs := #[.tmp 41, .tmp 46]) rfl ?_); at_builtin; refine append_28 wr rfl _ _ rfl w1.heap.size (.slice A7 m c7) _ ee rfl rfl HR.out hsz2 (by omega) ?_; intro v1 w5 hR5 hg5; obtain ⟨⟨A1, m1, c1', rfl⟩, d0, hR6, hB6⟩ := HKB.out v1 w5 hR5 hg5; clear hR5 hg5; have HR6 := Aside0.mk hR6; have HB6 := Aside0.mk hB6; clear hR6 hB6))
            go_roundg (M - (j + 1))
            case measure => omega
            case rel => exact ⟨j + 1, congrArg (Value.int .i64) (by first | exact wrap_succ j (by omega) | omega), by omega, rfl, by rw [ptr_eq2, HPP.out], HR6, HB6⟩
          · have hjz : ¬ (j : Int) < (M : Int) := by omega
            obtain rfl : j = M := by omega
            generalize ptr _ = v8x
            clear hgk hj
            go_wp2
            go_ret
            refine ⟨_, rfl, ?_, HB.out⟩
            have := HR.out
            rw [show T - j = A by omega] at this
            rw [HM.out]
            exact this
end Go.Proofs.Ytnlbdmiflihghaa.P
