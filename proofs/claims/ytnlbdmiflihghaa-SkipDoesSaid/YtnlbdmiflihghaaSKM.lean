/- An act, by the program alone; a list behind acts. Conditions: each theorem names its own. -/
import Derived.Test.YtnlbdmiflihghaaSKG
import Derived.Test.YtnlbdmiflihghaaSKS
import Derived.Test.YtnlbdmiflihghaaPx5
namespace Go.Proofs.Ytnlbdmiflihghaa.P
open Go.RowKit Go.Shelf Go.Proofs.YtnlbdmiflihghaaW.PrintWords Go.Proofs.YtnlbdmiflihghaaW.PrintLast Go.Proofs.YtnlbdmiflihghaaW.PrintMore Go.Proofs.Ytnlbdmiflihghaa.SK
attribute [local go_sem] Oper.semAt_some

abbrev S27 := S28
abbrev k27 : Kd S28 := k28
/-- An act. -/
structure S39 where
  f0 : Int
  f1 : S28
  f2 : Int
  f3 : Int
  f4 : Int
def z39 : S39 := ⟨0, z28, 0, 0, 0⟩
def k39 : Kd S39 := Kd.iso (Kd.pair (Kd.int .i64) (Kd.pair k28 (Kd.pair (Kd.int .i64) (Kd.pair (Kd.int .i64) (Kd.int .i64))))) (fun x : S39 => (x.f0, x.f1, x.f2, x.f3, x.f4))
theorem k39_open {w : World} {x : S39} {cs : List Value} (h : k39.K w x cs) : cs = [.int .i64 x.f0, .string x.f1.f0, .int .i64 x.f1.f1, .int .i64 x.f2, .int .i64 x.f3, .int .i64 x.f4] := by
  obtain ⟨_, _, rfl, rfl, _, _, rfl, h2, _, _, rfl, rfl, _, _, rfl, rfl, rfl⟩ := h
  have := k28_open h2
  subst this
  rfl
/-- The act at a place. -/
def rdA (xs : List S39) (i : Nat) : S39 := xs.getD i z39
theorem at_A {w : World} {A : Option Addr} {n : Nat} {xs : List S39} (h : Kd.C k39 w A n xs) (i : Nat) (h1 : i < n) : ∃ ad, A = some ad ∧ w.cell? (ad.add (i * 6)) = some (.int .i64 (rdA xs i).f0) ∧ w.cell? ⟨(ad.add (i * 6)).block, (ad.add (i * 6)).off + 1, none⟩ = some (.string (rdA xs i).f1.f0) ∧ w.cell? ⟨(ad.add (i * 6)).block, (ad.add (i * 6)).off + 2, none⟩ = some (.int .i64 (rdA xs i).f1.f1) ∧
    w.cell? ⟨(ad.add (i * 6)).block, (ad.add (i * 6)).off + 3, none⟩ = some (.int .i64 (rdA xs i).f2) ∧ w.cell? ⟨(ad.add (i * 6)).block, (ad.add (i * 6)).off + 4, none⟩ = some (.int .i64 (rdA xs i).f3) ∧ w.cell? ⟨(ad.add (i * 6)).block, (ad.add (i * 6)).off + 5, none⟩ = some (.int .i64 (rdA xs i).f4) := by
  obtain ⟨ad, c, e, _, hK, hc0⟩ := Kd.C_get h z39 (i : Int) (by omega) (by omega)
  have hc : ∀ j u, c[j]? = some u → w.cell? (ad.add (i * 6 + j)) = some u := by
    intro j u hj
    have := hc0 j u hj
    rwa [show ((i : Nat) : Int).toNat = i by omega] at this
  rw [show ((i : Nat) : Int).toNat = i by omega] at hK
  obtain rfl := k39_open hK
  exact ⟨ad, e, hc 0 _ rfl, by rw [← add_field _ _ 1 (by omega)]; exact hc 1 _ rfl, by rw [← add_field _ _ 2 (by omega)]; exact hc 2 _ rfl, by rw [← add_field _ _ 3 (by omega)]; exact hc 3 _ rfl, by rw [← add_field _ _ 4 (by omega)]; exact hc 4 _ rfl, by rw [← add_field _ _ 5 (by omega)]; exact hc 5 _ rfl⟩
/-- An entry whose member has at most twelve bytes. -/
def fewE (x : S28) : En := (x.f0.extract 0 (mn (x.f0.size : Int) 12).toNat, x.f1)
theorem few_some (x : S28) : paliolaw10_Few.f x.f0 x.f1 = some ((fewE x).1, (fewE x).2) := by
  unfold paliolaw10_Few.f fewE
  rw [if_pos (by unfold mn; split <;> omega), if_pos (by unfold mn; split <;> omega)]
/-- What an act tells, what it leaves. -/
def doneP (x : S39) (l : Int) (p : Pl2) : Int × Pl2 :=
  let r := x.f0 % 8
  if r < 4 then insP (fewE x.f1) l p
  else if r < 6 then (if (delP (fewE x.f1) p).1 = true then 1 else 0, (delP (fewE x.f1) p).2)
  else if r = 6 then ((rank (fewE x.f1) p.1 : Nat), p)
  else cutP p x.f3 x.f4
theorem u8_ (d : Int) : (IntKind.u64.wrap d).tmod 8 = d % 8 := by
  have h : IntKind.u64.wrap d = d % 18446744073709551616 := by
    simp [IntKind.wrap, IntKind.bits, IntKind.signed]
  rw [h, Int.tmod_eq_emod_of_nonneg (by omega)]
  omega
theorem After.later {w w3 w' : World} {b : Nat} {F : List Nat} {p' : Pl2} (hb : Below w.heap.size w w3) (h : After w3 b F p' w') : After w b F p' w' := by
  obtain ⟨F', h1, h2, h3⟩ := h
  exact ⟨F', h1, (Foot.of hb).trans h2, fun c hc => (h3 c hc).imp id (fun h4 => Nat.le_trans hb.size h4)⟩
set_option maxHeartbeats 8000000 in
set_option maxRecDepth 100000 in
theorem done_calls {w : World} {b : Nat} {F : List Nat} {p : Pl2} (h : Ls w b F p) (hsm : p.1.length < 1000) (x : S39) (l : Int) :
    Calls Try.prog 18 #[.pointer (some ⟨b, 0, none⟩), .agg #[.int .i64 x.f0, .string x.f1.f0, .int .i64 x.f1.f1, .int .i64 x.f2, .int .i64 x.f3, .int .i64 x.f4], .int .i64 l] w fun r w' => r = .returned (.int .i64 (doneP x l p).1) ∧ After w b F (doneP x l p).2 w' := by
  have HL := Aside0.mk h
  clear h
  go_enter Try.func18, Try.ntmps18
  go_wp2_with fail
  have hb1 : Below w.heap.size w (w.alloc (.cells #[.int .i64 x.f0, .string x.f1.f0, .int .i64 x.f1.f1, .int .i64 x.f2, .int .i64 x.f3, .int .i64 x.f4] 40)) := below_alloc (Below.refl _ _) _
  have c0 : (w.alloc (.cells #[.int .i64 x.f0, .string x.f1.f0, .int .i64 x.f1.f1, .int .i64 x.f2, .int .i64 x.f3, .int .i64 x.f4] 40)).cell? ⟨w.heap.size, 0, none⟩ = some (.int .i64 x.f0) := by simp
  have c4 : (w.alloc (.cells #[.int .i64 x.f0, .string x.f1.f0, .int .i64 x.f1.f1, .int .i64 x.f2, .int .i64 x.f3, .int .i64 x.f4] 40)).cell? ⟨w.heap.size, 4, none⟩ = some (.int .i64 x.f3) := by simp
  have c5 : (w.alloc (.cells #[.int .i64 x.f0, .string x.f1.f0, .int .i64 x.f1.f1, .int .i64 x.f2, .int .i64 x.f3, .int .i64 x.f4] 40)).cell? ⟨w.heap.size, 5, none⟩ = some (.int .i64 x.f4) := by simp
  have hlt : w.heap.size < (w.alloc (.cells #[.int .i64 x.f0, .string x.f1.f0, .int .i64 x.f1.f1, .int .i64 x.f2, .int .i64 x.f3, .int .i64 x.f4] 40)).heap.size := by simp
  generalize World.alloc w _ = w1 at hb1 c0 c4 c5 hlt ⊢
  refine (paliolaw10_Few.calls x.f1.f0 x.f1.f1 _ _ w1 (few_some x.f1)).mono ?_
  rintro r w2 ⟨rfl, hb2⟩
  have hb2' : Below w.heap.size w w2 := hb1.trans (hb2.mono hb1.size)
  replace c0 := (hb2.cell (p := ⟨w.heap.size, 0, none⟩) hlt).trans c0
  replace c4 := (hb2.cell (p := ⟨w.heap.size, 4, none⟩) hlt).trans c4
  replace c5 := (hb2.cell (p := ⟨w.heap.size, 5, none⟩) hlt).trans c5
  have hlt2 : w.heap.size < w2.heap.size := Nat.lt_of_lt_of_le hlt hb2.size
  clear hb1 hb2 hlt
  go_upto_region 2 with fail
  have hyb := ent_new w2 (fewE x.f1)
  have hb3 : Below w2.heap.size w2 (w2.alloc (.cells #[.string (fewE x.f1).1, .int .i64 (fewE x.f1).2] 28)) := below_alloc (Below.refl _ _) _
  generalize World.alloc w2 _ = w3 at hyb hb3 ⊢
  have hb3' : Below w.heap.size w w3 := hb2'.trans (hb3.mono hb2'.size)
  replace c0 := (hb3.cell (p := ⟨w.heap.size, 0, none⟩) hlt2).trans c0
  replace c4 := (hb3.cell (p := ⟨w.heap.size, 4, none⟩) hlt2).trans c4
  replace c5 := (hb3.cell (p := ⟨w.heap.size, 5, none⟩) hlt2).trans c5
  have e0 := ent_0 hyb
  have e1 := ent_1 hyb
  have hL3 := HL.out.below hb3'
  have HB3 := Aside0.mk hb3'
  clear hb2' hb3 hb3' hlt2 hyb
  go_upto_region 3 with fail
  rw [u8_]
  obtain ⟨r, hr⟩ : ∃ r, x.f0 % 8 = r := ⟨_, rfl⟩
  rw [hr]
  have hr8 : r = 0 ∨ r = 1 ∨ r = 2 ∨ r = 3 ∨ r = 4 ∨ r = 5 ∨ r = 6 ∨ r = 7 := by omega
  have HD : Aside0 (doneP x l p = if r < 4 then insP (fewE x.f1) l p else if r < 6 then (if (delP (fewE x.f1) p).1 = true then 1 else 0, (delP (fewE x.f1) p).2) else if r = 6 then ((rank (fewE x.f1) p.1 : Nat), p) else cutP p x.f3 x.f4) := ⟨by unfold doneP; rw [hr]⟩
  have hdel := ls_delete hL3 (fewE x.f1)
  clear hr
  rcases hr8 with rfl | rfl | rfl | rfl | rfl | rfl | rfl | rfl
  · go_wp2_with fail
    refine (ls_insert hL3 (fewE x.f1) l hsm).mono ?_
    rintro r w4 ⟨rfl, ha⟩
    go_wp2
    go_ret
    rw [HD.out]
    exact ⟨rfl, ha.later HB3.out⟩
  · go_wp2_with fail
    refine (ls_insert hL3 (fewE x.f1) l hsm).mono ?_
    rintro r w4 ⟨rfl, ha⟩
    go_wp2
    go_ret
    rw [HD.out]
    exact ⟨rfl, ha.later HB3.out⟩
  · go_wp2_with fail
    refine (ls_insert hL3 (fewE x.f1) l hsm).mono ?_
    rintro r w4 ⟨rfl, ha⟩
    go_wp2
    go_ret
    rw [HD.out]
    exact ⟨rfl, ha.later HB3.out⟩
  · go_wp2_with fail
    refine (ls_insert hL3 (fewE x.f1) l hsm).mono ?_
    rintro r w4 ⟨rfl, ha⟩
    go_wp2
    go_ret
    rw [HD.out]
    exact ⟨rfl, ha.later HB3.out⟩
  · generalize hdv : (delP (fewE x.f1) p).1 = dv at hdel
    have HDV := Aside0.mk hdv
    clear hdv
    go_wp2_with fail
    refine hdel.mono ?_
    rintro r w4 ⟨rfl, ha⟩
    cases dv with
    | true =>
      go_wp2
      go_ret
      rw [HD.out]
      show _ = Ending.returned (Value.int .i64 (if (delP (fewE x.f1) p).1 = true then 1 else 0)) ∧ _
      rw [if_pos HDV.out]
      exact ⟨rfl, ha.later HB3.out⟩
    | false =>
      go_wp2
      go_ret
      rw [HD.out]
      show _ = Ending.returned (Value.int .i64 (if (delP (fewE x.f1) p).1 = true then 1 else 0)) ∧ _
      rw [if_neg (by rw [HDV.out]; simp)]
      exact ⟨rfl, ha.later HB3.out⟩
  · generalize hdv : (delP (fewE x.f1) p).1 = dv at hdel
    have HDV := Aside0.mk hdv
    clear hdv
    go_wp2_with fail
    refine hdel.mono ?_
    rintro r w4 ⟨rfl, ha⟩
    cases dv with
    | true =>
      go_wp2
      go_ret
      rw [HD.out]
      show _ = Ending.returned (Value.int .i64 (if (delP (fewE x.f1) p).1 = true then 1 else 0)) ∧ _
      rw [if_pos HDV.out]
      exact ⟨rfl, ha.later HB3.out⟩
    | false =>
      go_wp2
      go_ret
      rw [HD.out]
      show _ = Ending.returned (Value.int .i64 (if (delP (fewE x.f1) p).1 = true then 1 else 0)) ∧ _
      rw [if_neg (by rw [HDV.out]; simp)]
      exact ⟨rfl, ha.later HB3.out⟩
  · go_wp2_with fail
    refine (ls_seek hL3 (fewE x.f1)).mono ?_
    rintro r w4 ⟨rfl, hb⟩
    go_wp2
    go_ret
    rw [HD.out]
    exact ⟨rfl, (After.same hL3 hb).later HB3.out⟩
  · go_wp2_with fail
    refine (ls_cut hL3 hsm x.f3 x.f4).mono ?_
    rintro r w4 ⟨rfl, ha⟩
    go_wp2
    go_ret
    rw [HD.out]
    exact ⟨rfl, ha.later HB3.out⟩
end Go.Proofs.Ytnlbdmiflihghaa.P

/- A list behind acts. Conditions: each theorem names its own. -/
namespace Go.Proofs.Ytnlbdmiflihghaa.P
open Go.RowKit Go.Shelf Go.Proofs.YtnlbdmiflihghaaW.PrintWords Go.Proofs.YtnlbdmiflihghaaW.PrintLast Go.Proofs.YtnlbdmiflihghaaW.PrintMore Go.Proofs.Ytnlbdmiflihghaa.SK
attribute [local go_sem] Oper.semAt_some

theorem i64_and31 (n : Int) : bits .and .i64 n 31 = n % 32 := by
  have h31 : (BitVec.ofInt 64 31).toNat = 2 ^ 5 - 1 := by decide
  have key : (BitVec.ofInt 64 n &&& BitVec.ofInt 64 31).toNat = (n % ((2 ^ 64 : Nat) : Int)).toNat % 2 ^ 5 := by
    rw [BitVec.toNat_and, BitVec.toNat_ofInt, h31, Nat.and_two_pow_sub_one_eq_mod]
  show IntKind.i64.wrap ((BitVec.ofInt 64 n &&& BitVec.ofInt 64 31).toNat : Nat) = n % 32
  rw [key, IntKind.wrap_i64]
  omega
def lv31 (a : Int) : Int := 1 + a % 32
theorem lv31_run (a : Int) : IntKind.i64.wrap (1 + bits .and .i64 a 31) = lv31 a := by
  rw [i64_and31]
  unfold lv31
  exact IntWalk.i64_in _ (by omega)
/-- A list behind so many acts. -/
def madeN (l : List S39) : Nat → Pl2
  | 0 => ([], [])
  | n + 1 => (doneP (rdA l n) (lv31 (rdA l n).f2) (madeN l n)).2
def madeP (l : List S39) : Pl2 := madeN l (min l.length 120)
theorem insP_len (e : En) (l : Int) (p : Pl2) : (insP e l p).2.1.length ≤ p.1.length + 1 := by
  unfold insP
  split
  · exact Nat.le_succ _
  · split
    · exact Nat.le_succ _
    · show (p.1.take (rank e p.1) ++ e :: p.1.drop (rank e p.1)).length ≤ _
      rw [List.length_append, List.length_cons, List.length_take, List.length_drop]
      omega
theorem delN_le {α : Type} (A : Nat) (L : List α) : ∀ n, (delN A n L).length ≤ L.length
  | 0 => Nat.le_refl _
  | n + 1 => Nat.le_trans (List.length_eraseIdx_le _ _) (delN_le A L n)
theorem doneP_len (x : S39) (l : Int) (p : Pl2) : (doneP x l p).2.1.length ≤ p.1.length + 1 := by
  unfold doneP
  simp only
  split
  · exact insP_len _ _ _
  · split
    · show (delP (fewE x.f1) p).2.1.length ≤ _
      unfold delP
      split
      · exact Nat.le_trans (List.length_eraseIdx_le _ _) (Nat.le_succ _)
      · exact Nat.le_succ _
    · split
      · exact Nat.le_succ _
      · exact Nat.le_trans (delN_le _ _ _) (Nat.le_succ _)
theorem madeN_len (l : List S39) : ∀ n, (madeN l n).1.length ≤ n
  | 0 => Nat.le_refl _
  | n + 1 => Nat.le_trans (doneP_len _ _ _) (Nat.succ_le_succ (madeN_len l n))
set_option maxHeartbeats 8000000 in
set_option maxRecDepth 100000 in
theorem made_calls (l : List S39) (A : Option Addr) (c : Nat) (w : World) (hC : Kd.C k39 w A l.length l) :
    Calls Try.prog 11 #[.slice A l.length c] w fun r w' => ∃ F, r = .returned (.pointer (some ⟨w.heap.size, 0, none⟩)) ∧ Own w.heap.size w w' w.heap.size F (madeP l) := by
  have HC := Aside0.mk hC
  have hmx : l.length ≤ 9223372036854775807 := hC.2.1
  clear hC
  generalize hn : l.length = n at hmx HC
  have HN := Aside0.mk hn
  clear hn
  go_enter Try.func11, Try.ntmps11
  go_wp2_with fail
  refine (ls_new w).mono ?_
  rintro r w1 ⟨rfl, hL, hb⟩
  have hO1 : Own w.heap.size w w1 w.heap.size [] ([], []) := ⟨hL, fun c hc => by simp at hc; omega, hb⟩
  have HO1 := Aside0.mk hO1
  clear hL hb hO1
  go_wp2
  go_loopg [4] (min n 120) (fun gk v4 wr => ∃ (i : Nat) (F : List Nat), v4 = .int .i64 (i : Int) ∧ i ≤ min n 120 ∧ gk = min n 120 - i ∧ Aside0 (Own w.heap.size w wr w.heap.size F (madeN l i)))
  case atStart => exact ⟨0, [], rfl, Nat.zero_le _, rfl, HO1⟩
  case round =>
    clear HO1
    obtain ⟨i, F, rfl, hi, hgk, HO⟩ := hrel
    by_cases hin : i < min n 120
    · have h1 : (i : Int) < (n : Int) := by omega
      have h2 : (i : Int) < 120 := by omega
      have h3 : i < n := by omega
      obtain ⟨ad, hA, c0, c1, c2, c3, c4, c5⟩ := at_A HC.out i h3
      subst hA
      have hb := HO.out.bl
      have hlt := HO.out.lt
      have cc : ∀ j v, w.cell? ⟨(ad.add (i * 6)).block, (ad.add (i * 6)).off + j, none⟩ = some v → wr.cell? ⟨(ad.add (i * 6)).block, (ad.add (i * 6)).off + j, none⟩ = some v := fun j v hv => (hb.cell (World.block_lt_of_cell? w _ hv)).trans hv
      have d0 := (hb.cell (World.block_lt_of_cell? w _ c0)).trans c0
      have d1 := cc 1 _ c1
      have d2 := cc 2 _ c2
      have d3 := cc 3 _ c3
      have d4 := cc 4 _ c4
      have d5 := cc 5 _ c5
      have hln := madeN_len l i
      have hdn := done_calls (HO.out.ls.move (w' := wr.drew) (fun _ _ => rfl)) (show (madeN l i).1.length < 1000 by omega) (rdA l i) (lv31 (rdA l i).f2)
      clear c0 c1 c2 c3 c4 c5 cc hb
      go_upto_region 5 with fail
      go_still_tail 12, (by kernel_rfl)
      change wpList _ _ _ _ _ wr.drew
      rw [lv31_run]
      have HO2 := Aside0.mk (HO.out.below ((Below.refl _ wr).drew))
      clear HO
      go_wp2_with fail
      refine hdn.mono ?_
      rintro r w4 ⟨rfl, ha⟩
      obtain ⟨F4, hO4⟩ : ∃ F', Own w.heap.size w w4 w.heap.size F' (madeN l (i + 1)) := HO2.out.after ha
      have HO4 := Aside0.mk hO4
      clear hdn ha hO4 HO2 d0 d1 d2 d3 d4 d5
      go_wp2
      go_roundg (min n 120 - (i + 1))
      case measure => omega
      case rel => exact ⟨i + 1, F4, congrArg (Value.int .i64) (by first | exact wrap_succ i (by omega) | omega), by omega, rfl, HO4⟩
    · have HM : Aside0 (madeN l i = madeP l) := ⟨by unfold madeP; rw [HN.out]; congr 1; omega⟩
      by_cases h1 : i < n
      · have h2 : (i : Int) < (n : Int) := by omega
        have h3 : ¬ (i : Int) < 120 := by omega
        go_wp2
        go_ret
        exact ⟨rfl, F, HM.out ▸ HO.out⟩
      · have h2 : ¬ (i : Int) < (n : Int) := by omega
        go_wp2
        go_ret
        exact ⟨rfl, F, HM.out ▸ HO.out⟩
theorem rank_self {L : List En} (hs : Srt L) (i : Nat) (hi : i < L.length) : rank L[i] L = i := by
  have h1 := rank_lt L[i] L hs i hi
  rw [ltE_irrefl] at h1
  have h2 : rank L[i] L ≤ i := by
    have := of_decide_eq_false h1.symm
    omega
  rcases Nat.lt_or_ge (rank L[i] L) i with h3 | h3
  · have h4 := List.pairwise_iff_getElem.mp hs (rank L[i] L) i (by omega) hi h3
    have h5 := rank_lt L[i] L hs (rank L[i] L) (by omega)
    rw [h4] at h5
    simp at h5
  · omega
theorem Ls.srt {w : World} {b : Nat} {F : List Nat} {p : Pl2} (h : Ls w b F p) : Srt p.1 := by
  obtain ⟨σ, _, _, h3, _⟩ := h.ex
  exact h3
theorem Ls.lv1 {w : World} {b : Nat} {F : List Nat} {p : Pl2} (h : Ls w b F p) : ∀ c, c ∈ p.2 → 1 ≤ c := by
  obtain ⟨σ, _, hX, _, _, h5⟩ := h.ex
  intro c hc
  rw [← h5] at hc
  obtain ⟨d, hd, rfl⟩ := List.mem_map.mp hc
  exact (hX.lv1 d hd).1
end Go.Proofs.Ytnlbdmiflihghaa.P
