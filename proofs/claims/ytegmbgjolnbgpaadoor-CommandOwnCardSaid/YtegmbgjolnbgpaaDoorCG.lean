/- The reader's methods that take a cursor, a pair, so many of the lowest. Conditions: each theorem names its own. -/
import Derived.Test.YtegmbgjolnbgpaaDoorCF
namespace Go.Proofs.YtegmbgjolnbgpaaDoor.P
open Go.RowKit Go.Shelf Go.Proofs.YtegmbgjolnbgpaaDoorW.PrintWords Go.Proofs.YtegmbgjolnbgpaaDoorW.PrintLast Go.Proofs.YtegmbgjolnbgpaaDoorW.PrintMore
attribute [local go_sem] Oper.semAt_some

/-- The reader in a later world, and what lay in blocks of other kinds. -/
def At (w0 w : World) (b : Nat) (c : Cm) (l : List ByteArray) (W : World) : Prop := Rd w0 W b c l ∧ Fr b w W
section
variable {w0 w W W' : World} {b : Nat} {c c' : Cm} {l l' : List ByteArray}
theorem At.start (h : Rd w0 w b c l) : At w0 w b c l w := ⟨h, Fr.refl b w⟩
theorem At.st (h : At w0 w b c l W) (k : St w0 W b c' l' W') : At w0 w b c' l' W' := ⟨k.1, h.2.trans k.fr⟩
theorem At.below (h : At w0 w b c l W) (hb : Below W.heap.size W W') : At w0 w b c l W' := ⟨h.1.below hb, h.2.trans (Fr.below hb)⟩
theorem At.box (h : At w0 w b c l W) (o : Obj) : At w0 w b c l (W.alloc o) := h.below (below_box W o)
theorem At.drew (h : At w0 w b c l W) : At w0 w b c l W.drew := h.below (below_drew (Below.refl _ _))
theorem At.put (h : At w0 w b c l W) (j : Nat) (u : Value) (hk : c'.keys = c.keys) (he : c'.ents = c.ents) (hw : c'.ws = c.ws) (hc : ∀ vk ve vw vl, (rdCells c vk ve vw vl).setIfInBounds j u = rdCells c' vk ve vw vl) : At w0 w b c' l (W.setCell ⟨b, j, none⟩ u) :=
  ⟨h.1.put j u hk he hw hc, h.2.trans (Fr.grown (grown_set (grown_refl W (some b)) j u))⟩
theorem At.cell (h : At w0 w b c l W) (j : Nat) (v : Value) (hc : ∀ vk ve vw vl, (rdCells c vk ve vw vl)[j]? = some v) : W.cell? ⟨b, j, none⟩ = some v := by
  obtain ⟨vk, ve, vw, A, n, hB, _⟩ := h.1.ex
  exact (hB.cell j).trans (hc _ _ _ _)
theorem At.frozen (h : At w0 w b c l W) (j : Nat) : W.frozen? ⟨b, j, none⟩ = false := h.1.frozen j
theorem At.left (h : At w0 w b c l W) : ∃ A n, W.cell? ⟨b, 29, none⟩ = some (.slice A l.length n) := by
  obtain ⟨vk, ve, vw, A, n, hB, _⟩ := h.1.ex
  exact ⟨A, n, hB.cell 29⟩
theorem At.ok (h : At w0 w b c l W) : PostE w0 w b 0 c l (.returned .nilIface) W := postE_ok h.1 h.2
theorem At.bad {e : Int} (h : At w0 w b c l W) (he : e ≠ 0) {c2 : Cm} {l2 : List ByteArray} : PostE w0 w b e c2 l2 (.returned (badV e)) W := postE_bad he h.1.bel h.2
theorem At.go (h : At w0 w b c l W) {r : Rz} {e : Ending} (k : PostZ w0 W b r e W') : PostZ w0 w b r e W' := ⟨k.1, k.2.1, h.2.trans k.2.2.1, k.2.2.2⟩
end
def wMatch : ByteArray := ⟨#[77, 65, 84, 67, 72]⟩
/-- A cursor, and a pattern. -/
def patZ (c : Cm) (l : List ByteArray) : Rz :=
  if (isW wMatch l).1 = true then
    match (isW wMatch l).2 with
    | [] => bad 172
    | m :: l2 => if m.size ≤ 64 ∧ l2.length = 0 then (0, { c with pat := m }, []) else bad 172
  else if (isW wMatch l).2.length = 0 then (0, { c with pat := ⟨#[42]⟩ }, []) else bad 172
def scanZ (c : Cm) : List ByteArray → Rz
  | [] => bad 172
  | s :: l => match numE 0 4294967295 s with
    | none => bad 175
    | some n => patZ { c with cur := n } l
section
variable {w0 w : World} {b : Nat} {c : Cm}
theorem scanZ_none {s : ByteArray} {l : List ByteArray} (h : numE 0 4294967295 s = none) : scanZ c (s :: l) = bad 175 := by simp [scanZ, h]
theorem scanZ_some {s : ByteArray} {l : List ByteArray} {n : Int} (h : numE 0 4294967295 s = some n) : scanZ c (s :: l) = patZ { c with cur := n } l := by simp [scanZ, h]
theorem patZ_b1 {l : List ByteArray} (hy : (isW wMatch l).1 = true) (h : (isW wMatch l).2 = []) : patZ c l = bad 172 := by unfold patZ; rw [if_pos hy, h]
theorem patZ_b2 {l l2 : List ByteArray} {m : ByteArray} (hy : (isW wMatch l).1 = true) (h : (isW wMatch l).2 = m :: l2) (hm : ¬ (m.size ≤ 64 ∧ l2.length = 0)) : patZ c l = bad 172 := by unfold patZ; rw [if_pos hy, h]; exact if_neg hm
theorem patZ_y {l : List ByteArray} {m : ByteArray} (hy : (isW wMatch l).1 = true) (h : (isW wMatch l).2 = [m]) (hm : m.size ≤ 64) : patZ c l = (0, { c with pat := m }, []) := by unfold patZ; rw [if_pos hy, h]; exact if_pos ⟨hm, rfl⟩
theorem patZ_n {l : List ByteArray} (hy : (isW wMatch l).1 = false) (h : (isW wMatch l).2 = []) : patZ c l = (0, { c with pat := ⟨#[42]⟩ }, []) := by unfold patZ; rw [if_neg (by rw [hy]; decide), h]; rfl
theorem patZ_b3 {l : List ByteArray} (hy : (isW wMatch l).1 = false) (h : (isW wMatch l).2 ≠ []) : patZ c l = bad 172 := by
  unfold patZ
  rw [if_neg (by rw [hy]; decide), if_neg (fun e => h (List.length_eq_zero_iff.1 e))]
set_option maxHeartbeats 8000000 in
set_option maxRecDepth 100000 in
theorem scan_calls {s : ByteArray} {l : List ByteArray} (h : Rd w0 w b c (s :: l)) : Calls Tryd.prog 26 #[.pointer (some ⟨b, 0, none⟩)] w (PostZ w0 w b (scanZ c (s :: l))) := by
  have HS := Lib.hid h
  have HT := Lib.hid (take_calls h)
  have hsz : s.size ≤ 100000 := Nat.le_trans (h.ok s List.mem_cons_self) (by decide)
  have hnum := num_calls s hsz
  have hbd := numOf_bd s
  have hE : numE 0 4294967295 s = numE 0 4294967295 s := rfl
  conv at hE => rhs; unfold numE
  clear hsz h
  generalize numOf s = p at hnum hbd hE
  obtain ⟨n, f⟩ := p
  simp only at hnum hbd hE
  have HN := Lib.hid hnum
  obtain ⟨hbd1, hbd2⟩ := hbd
  clear hnum
  by_cases hf : f = 0
  · subst hf
    by_cases hl : n < 0
    · rw [if_neg (by omega)] at hE
      rw [scanZ_none hE]
      clear hE
      go_enter Tryd.func26, Tryd.ntmps26
      go_wp2_with fail
      refine HT.out.mono ?_
      rintro e w1 ⟨rfl, h1, g1⟩
      have H1 := Lib.hid ((At.start HS.out).st ⟨h1, g1⟩)
      clear h1 g1
      go_wp2_with fail
      refine (HN.out w1).mono ?_
      rintro e w2 ⟨rfl, hb2⟩
      have H2 := Lib.hid (H1.out.below hb2)
      clear hb2 H1
      go_wp2_with fail
      refine (first_calls 175 (by decide) _ _ (by simp)).mono ?_
      rintro e w3 ⟨rfl, rfl⟩
      rw [show refV 175 = .iface 74 (.agg #[.int .i64 175]) from rfl]
      go_wp2
      go_ret
      exact (H2.out.box _).bad (by decide)
    · by_cases hh : 4294967295 < n
      · rw [if_neg (by omega)] at hE
        rw [scanZ_none hE]
        clear hE
        go_enter Tryd.func26, Tryd.ntmps26
        go_wp2_with fail
        refine HT.out.mono ?_
        rintro e w1 ⟨rfl, h1, g1⟩
        have H1 := Lib.hid ((At.start HS.out).st ⟨h1, g1⟩)
        clear h1 g1
        go_wp2_with fail
        refine (HN.out w1).mono ?_
        rintro e w2 ⟨rfl, hb2⟩
        have H2 := Lib.hid (H1.out.below hb2)
        clear hb2 H1
        go_wp2_with fail
        refine (first_calls 175 (by decide) _ _ (by simp)).mono ?_
        rintro e w3 ⟨rfl, rfl⟩
        rw [show refV 175 = .iface 74 (.agg #[.int .i64 175]) from rfl]
        go_wp2
        go_ret
        exact (H2.out.box _).bad (by decide)
      · rw [if_pos (by omega)] at hE
        rw [scanZ_some hE]
        have hl0 : 0 ≤ n := by omega
        have hh0 : n ≤ 4294967295 := by omega
        clear hl hh hE
        by_cases hy : (isW wMatch l).1 = true
        · rcases hr : (isW wMatch l).2 with _ | ⟨m, l2⟩
          · rw [patZ_b1 hy hr]
            go_enter Tryd.func26, Tryd.ntmps26
            go_wp2_with fail
            refine HT.out.mono ?_
            rintro e w1 ⟨rfl, h1, g1⟩
            have H1 := Lib.hid ((At.start HS.out).st ⟨h1, g1⟩)
            clear h1 g1
            go_wp2_with fail
            refine (HN.out w1).mono ?_
            rintro e w2 ⟨rfl, hb2⟩
            have H2 := Lib.hid (H1.out.below hb2)
            clear hb2 H1
            have hcc := H2.out.cell 23 (.int .u32 c.cur) (fun _ _ _ _ => rfl)
            have hcp := H2.out.cell 24 (.string c.pat) (fun _ _ _ _ => rfl)
            have hfc := H2.out.frozen 23
            have hfp := H2.out.frozen 24
            have HP := Lib.hid (((H2.out.put (c' := { c with cur := n }) 23 (.int .u32 n) rfl rfl rfl (fun _ _ _ _ => rfl)).put (c' := { c with cur := n, pat := ⟨#[42]⟩ }) 24 (.string ⟨#[42]⟩) rfl rfl rfl (fun _ _ _ _ => rfl)).box (.cells #[.string wMatch] 9))
            clear H2
            go_wp2_with fail
            clear hcc hcp hfc hfp
            refine (isWord_yes HP.out.1 wMatch _ (by rw [World.cell?_alloc_at _ _ _ _ (by simp)]; rfl) hy).mono ?_
            rintro e w4 ⟨rfl, h4⟩
            have H4 := HP.out.st h4
            clear h4 HP
            rw [hr] at H4
            clear hy hr
            obtain ⟨A4, n4, hl4⟩ := H4.left
            have HH := Lib.hid H4
            clear H4
            go_wp2_with fail
            refine (first_calls 172 (by decide) _ _ (by simp)).mono ?_
            rintro e w8 ⟨rfl, rfl⟩
            rw [show refV 172 = .iface 74 (.agg #[.int .i64 172]) from rfl]
            go_wp2
            go_ret
            exact (HH.out.box _).bad (by decide)
          · by_cases hm : m.size ≤ 64
            · by_cases hl2 : l2.length = 0
              · obtain rfl := List.length_eq_zero_iff.1 hl2
                rw [patZ_y hy hr hm]
                go_enter Tryd.func26, Tryd.ntmps26
                go_wp2_with fail
                refine HT.out.mono ?_
                rintro e w1 ⟨rfl, h1, g1⟩
                have H1 := Lib.hid ((At.start HS.out).st ⟨h1, g1⟩)
                clear h1 g1
                go_wp2_with fail
                refine (HN.out w1).mono ?_
                rintro e w2 ⟨rfl, hb2⟩
                have H2 := Lib.hid (H1.out.below hb2)
                clear hb2 H1
                have hcc := H2.out.cell 23 (.int .u32 c.cur) (fun _ _ _ _ => rfl)
                have hcp := H2.out.cell 24 (.string c.pat) (fun _ _ _ _ => rfl)
                have hfc := H2.out.frozen 23
                have hfp := H2.out.frozen 24
                have HP := Lib.hid (((H2.out.put (c' := { c with cur := n }) 23 (.int .u32 n) rfl rfl rfl (fun _ _ _ _ => rfl)).put (c' := { c with cur := n, pat := ⟨#[42]⟩ }) 24 (.string ⟨#[42]⟩) rfl rfl rfl (fun _ _ _ _ => rfl)).box (.cells #[.string wMatch] 9))
                clear H2
                go_wp2_with fail
                clear hcc hcp hfc hfp
                refine (isWord_yes HP.out.1 wMatch _ (by rw [World.cell?_alloc_at _ _ _ _ (by simp)]; rfl) hy).mono ?_
                rintro e w4 ⟨rfl, h4⟩
                have H4 := HP.out.st h4
                clear h4 HP
                rw [hr] at H4
                clear hy hr hl2
                obtain ⟨A4, n4, hl4⟩ := H4.left
                have HH := Lib.hid H4
                have hmz : ¬ (64 : Int) < (m.size : Int) := by omega
                clear H4 hm
                go_wp2_with fail
                refine (take_calls HH.out.1).mono ?_
                rintro e w5 ⟨rfl, h5, g5⟩
                have H5 := HH.out.st ⟨h5, g5⟩
                have hc5 := H5.cell 24 (.string ⟨#[42]⟩) (fun _ _ _ _ => rfl)
                have hf5 := H5.frozen 24
                have HP5 := Lib.hid (H5.put (c' := { c with cur := n, pat := m }) 24 (.string m) rfl rfl rfl (fun _ _ _ _ => rfl))
                clear h5 g5 H5 HH hl4
                go_wp2_with fail
                refine (ends_ok HP5.out.1).mono ?_
                rintro e w6 ⟨rfl, h6⟩
                have H6 := Lib.hid (HP5.out.st h6)
                clear h6 hc5 hf5
                go_wp2
                go_ret
                exact H6.out.ok
              · rw [patZ_b2 hy hr (fun e => hl2 e.2)]
                go_enter Tryd.func26, Tryd.ntmps26
                go_wp2_with fail
                refine HT.out.mono ?_
                rintro e w1 ⟨rfl, h1, g1⟩
                have H1 := Lib.hid ((At.start HS.out).st ⟨h1, g1⟩)
                clear h1 g1
                go_wp2_with fail
                refine (HN.out w1).mono ?_
                rintro e w2 ⟨rfl, hb2⟩
                have H2 := Lib.hid (H1.out.below hb2)
                clear hb2 H1
                have hcc := H2.out.cell 23 (.int .u32 c.cur) (fun _ _ _ _ => rfl)
                have hcp := H2.out.cell 24 (.string c.pat) (fun _ _ _ _ => rfl)
                have hfc := H2.out.frozen 23
                have hfp := H2.out.frozen 24
                have HP := Lib.hid (((H2.out.put (c' := { c with cur := n }) 23 (.int .u32 n) rfl rfl rfl (fun _ _ _ _ => rfl)).put (c' := { c with cur := n, pat := ⟨#[42]⟩ }) 24 (.string ⟨#[42]⟩) rfl rfl rfl (fun _ _ _ _ => rfl)).box (.cells #[.string wMatch] 9))
                clear H2
                go_wp2_with fail
                clear hcc hcp hfc hfp
                refine (isWord_yes HP.out.1 wMatch _ (by rw [World.cell?_alloc_at _ _ _ _ (by simp)]; rfl) hy).mono ?_
                rintro e w4 ⟨rfl, h4⟩
                have H4 := HP.out.st h4
                clear h4 HP
                rw [hr] at H4
                have HL2 := Lib.hid (show l2 ≠ [] from fun e => hl2 (by rw [e]; rfl))
                clear hy hr hl2
                obtain ⟨A4, n4, hl4⟩ := H4.left
                have HH := Lib.hid H4
                have hmz : ¬ (64 : Int) < (m.size : Int) := by omega
                have hln : l2.length < 1000 := by have := HH.out.1.few.1; simp at this; omega
                clear H4 hm
                go_wp2_with fail
                refine (take_calls HH.out.1).mono ?_
                rintro e w5 ⟨rfl, h5, g5⟩
                have H5 := HH.out.st ⟨h5, g5⟩
                have hc5 := H5.cell 24 (.string ⟨#[42]⟩) (fun _ _ _ _ => rfl)
                have hf5 := H5.frozen 24
                have HP5 := Lib.hid (H5.put (c' := { c with cur := n, pat := m }) 24 (.string m) rfl rfl rfl (fun _ _ _ _ => rfl))
                clear h5 g5 H5 HH hl4
                go_wp2_with fail
                refine (ends_no HP5.out.1 HL2.out).mono ?_
                rintro e w6 ⟨rfl, h6⟩
                have H6 := Lib.hid (HP5.out.st h6)
                clear h6 hc5 hf5
                unfold badV
                go_wp2
                go_ret
                exact H6.out.bad (by decide)
            · rw [patZ_b2 hy hr (fun e => hm e.1)]
              go_enter Tryd.func26, Tryd.ntmps26
              go_wp2_with fail
              refine HT.out.mono ?_
              rintro e w1 ⟨rfl, h1, g1⟩
              have H1 := Lib.hid ((At.start HS.out).st ⟨h1, g1⟩)
              clear h1 g1
              go_wp2_with fail
              refine (HN.out w1).mono ?_
              rintro e w2 ⟨rfl, hb2⟩
              have H2 := Lib.hid (H1.out.below hb2)
              clear hb2 H1
              have hcc := H2.out.cell 23 (.int .u32 c.cur) (fun _ _ _ _ => rfl)
              have hcp := H2.out.cell 24 (.string c.pat) (fun _ _ _ _ => rfl)
              have hfc := H2.out.frozen 23
              have hfp := H2.out.frozen 24
              have HP := Lib.hid (((H2.out.put (c' := { c with cur := n }) 23 (.int .u32 n) rfl rfl rfl (fun _ _ _ _ => rfl)).put (c' := { c with cur := n, pat := ⟨#[42]⟩ }) 24 (.string ⟨#[42]⟩) rfl rfl rfl (fun _ _ _ _ => rfl)).box (.cells #[.string wMatch] 9))
              clear H2
              go_wp2_with fail
              clear hcc hcp hfc hfp
              refine (isWord_yes HP.out.1 wMatch _ (by rw [World.cell?_alloc_at _ _ _ _ (by simp)]; rfl) hy).mono ?_
              rintro e w4 ⟨rfl, h4⟩
              have H4 := HP.out.st h4
              clear h4 HP
              rw [hr] at H4
              clear hy hr
              obtain ⟨A4, n4, hl4⟩ := H4.left
              have HH := Lib.hid H4
              have hmz : (64 : Int) < (m.size : Int) := by omega
              have hln : l2.length < 1000 := by have := HH.out.1.few.1; simp at this; omega
              clear H4 hm
              go_wp2_with fail
              refine (take_calls HH.out.1).mono ?_
              rintro e w5 ⟨rfl, h5, g5⟩
              have H5 := HH.out.st ⟨h5, g5⟩
              have hc5 := H5.cell 24 (.string ⟨#[42]⟩) (fun _ _ _ _ => rfl)
              have hf5 := H5.frozen 24
              have HP5 := Lib.hid (H5.put (c' := { c with cur := n, pat := m }) 24 (.string m) rfl rfl rfl (fun _ _ _ _ => rfl))
              clear h5 g5 H5 HH hl4
              go_wp2_with fail
              refine (first_calls 172 (by decide) _ _ (by rw [World.cell?_alloc_at _ _ _ _ (by simp)]; rfl)).mono ?_
              rintro e w8 ⟨rfl, rfl⟩
              rw [show refV 172 = .iface 74 (.agg #[.int .i64 172]) from rfl]
              go_wp2
              go_ret
              exact (HP5.out.box _).bad (by decide)
        · have hy : (isW wMatch l).1 = false := by simpa using hy
          by_cases hr : (isW wMatch l).2 = []
          · rw [patZ_n hy hr]
            go_enter Tryd.func26, Tryd.ntmps26
            go_wp2_with fail
            refine HT.out.mono ?_
            rintro e w1 ⟨rfl, h1, g1⟩
            have H1 := Lib.hid ((At.start HS.out).st ⟨h1, g1⟩)
            clear h1 g1
            go_wp2_with fail
            refine (HN.out w1).mono ?_
            rintro e w2 ⟨rfl, hb2⟩
            have H2 := Lib.hid (H1.out.below hb2)
            clear hb2 H1
            have hcc := H2.out.cell 23 (.int .u32 c.cur) (fun _ _ _ _ => rfl)
            have hcp := H2.out.cell 24 (.string c.pat) (fun _ _ _ _ => rfl)
            have hfc := H2.out.frozen 23
            have hfp := H2.out.frozen 24
            have HP := Lib.hid (((H2.out.put (c' := { c with cur := n }) 23 (.int .u32 n) rfl rfl rfl (fun _ _ _ _ => rfl)).put (c' := { c with cur := n, pat := ⟨#[42]⟩ }) 24 (.string ⟨#[42]⟩) rfl rfl rfl (fun _ _ _ _ => rfl)).box (.cells #[.string wMatch] 9))
            clear H2
            go_wp2_with fail
            clear hcc hcp hfc hfp
            refine (isWord_no HP.out.1 wMatch _ (by rw [World.cell?_alloc_at _ _ _ _ (by simp)]; rfl) hy).mono ?_
            rintro e w4 ⟨rfl, h4⟩
            have H4 := HP.out.st h4
            clear h4 HP
            rw [hr] at H4
            have HH := Lib.hid H4
            clear hy hr H4
            go_wp2_with fail
            refine (ends_ok HH.out.1).mono ?_
            rintro e w6 ⟨rfl, h6⟩
            have H6 := Lib.hid (HH.out.st h6)
            clear h6
            go_wp2
            go_ret
            exact H6.out.ok
          · rw [patZ_b3 hy hr]
            go_enter Tryd.func26, Tryd.ntmps26
            go_wp2_with fail
            refine HT.out.mono ?_
            rintro e w1 ⟨rfl, h1, g1⟩
            have H1 := Lib.hid ((At.start HS.out).st ⟨h1, g1⟩)
            clear h1 g1
            go_wp2_with fail
            refine (HN.out w1).mono ?_
            rintro e w2 ⟨rfl, hb2⟩
            have H2 := Lib.hid (H1.out.below hb2)
            clear hb2 H1
            have hcc := H2.out.cell 23 (.int .u32 c.cur) (fun _ _ _ _ => rfl)
            have hcp := H2.out.cell 24 (.string c.pat) (fun _ _ _ _ => rfl)
            have hfc := H2.out.frozen 23
            have hfp := H2.out.frozen 24
            have HP := Lib.hid (((H2.out.put (c' := { c with cur := n }) 23 (.int .u32 n) rfl rfl rfl (fun _ _ _ _ => rfl)).put (c' := { c with cur := n, pat := ⟨#[42]⟩ }) 24 (.string ⟨#[42]⟩) rfl rfl rfl (fun _ _ _ _ => rfl)).box (.cells #[.string wMatch] 9))
            clear H2
            go_wp2_with fail
            clear hcc hcp hfc hfp
            refine (isWord_no HP.out.1 wMatch _ (by rw [World.cell?_alloc_at _ _ _ _ (by simp)]; rfl) hy).mono ?_
            rintro e w4 ⟨rfl, h4⟩
            have H4 := HP.out.st h4
            clear h4 HP
            have HR := Lib.hid hr
            have HH := Lib.hid H4
            clear hy hr H4
            go_wp2_with fail
            refine (ends_no HH.out.1 HR.out).mono ?_
            rintro e w6 ⟨rfl, h6⟩
            have H6 := Lib.hid (HH.out.st h6)
            clear h6
            unfold badV
            go_wp2
            go_ret
            exact H6.out.bad (by decide)
  · have hfb : (f != 0) = true := by simpa using hf
    rw [if_neg (by omega)] at hE
    rw [scanZ_none hE]
    clear hf hE
    go_enter Tryd.func26, Tryd.ntmps26
    go_wp2_with fail
    refine HT.out.mono ?_
    rintro e w1 ⟨rfl, h1, g1⟩
    have H1 := Lib.hid ((At.start HS.out).st ⟨h1, g1⟩)
    clear h1 g1
    go_wp2_with fail
    refine (HN.out w1).mono ?_
    rintro e w2 ⟨rfl, hb2⟩
    have H2 := Lib.hid (H1.out.below hb2)
    clear hb2 H1
    go_wp2_with fail
    refine (first_calls 175 (by decide) _ _ (by simp)).mono ?_
    rintro e w3 ⟨rfl, rfl⟩
    rw [show refV 175 = .iface 74 (.agg #[.int .i64 175]) from rfl]
    go_wp2
    go_ret
    exact (H2.out.box _).bad (by decide)
end
end Go.Proofs.YtegmbgjolnbgpaaDoor.P
