/- The parts of a pattern: the machine's side. Conditions: that the pattern is at most a thousand bytes. -/
import Derived.Test.YtmejbponpkkobaaPH4
import Derived.Test.YtmejbponpkkobaaPH5
import Derived.Test.YtmejbponpkkobaaPH6
import Derived.WalkMore
namespace Go.Proofs.Ytmejbponpkkobaa.P
open Go.RowKit Go.Proofs.YtmejbponpkkobaaW.PrintWords Go.Proofs.YtmejbponpkkobaaW.PrintLast Go.Proofs.YtmejbponpkkobaaW.PrintMore

/-- One round's state: j characters have been read. -/
structure At (s : ByteArray) (w0 : World) (j pos fuel : Nat) (wr : World) : Prop where
  hj : j ≤ (runes s).length
  it : wr.heap[w0.heap.size]? = some (.stringIter s pos)
  bel : Below w0.heap.size w0 wr
  rest : rs s fuel pos = (runes s).drop j
  fu : s.size ≤ pos + fuel
theorem At.step {s : ByteArray} {w0 : World} {j pos fuel : Nat} {wr : World} (h : At s w0 j pos fuel wr) (hp : pos < s.size) : ∃ f, fuel = f + 1 ∧ (runes s).drop j = ((Utf8.decode s pos).1 : Int) :: (runes s).drop (j + 1) ∧ j < (runes s).length ∧ At s w0 (j + 1) (pos + (Utf8.decode s pos).2) f (wr.iterAt w0.heap.size s (pos + (Utf8.decode s pos).2)) := by
  have hwd := width_pos s pos hp
  obtain ⟨f, rfl⟩ : ∃ f, fuel = f + 1 := ⟨fuel - 1, by have := h.fu; omega⟩
  have hr := h.rest
  rw [rs, if_pos hp] at hr
  have hlt : j < (runes s).length := by
    rcases Nat.lt_or_ge j (runes s).length with h1 | h1
    · exact h1
    · rw [List.drop_eq_nil_of_le h1] at hr; cases hr
  have hd : (runes s).drop j = (runes s)[j] :: (runes s).drop (j + 1) := List.drop_eq_getElem_cons hlt
  rw [hd] at hr
  injection hr with h1 h2
  refine ⟨f, rfl, by rw [hd, h1], hlt, ⟨hlt, Lib.iterAt_heap wr _ s pos _ h.it, Lib.below_iterAt h.bel (Nat.le_refl _) s _, h2, by have := h.fu; omega⟩⟩
theorem At.stop {s : ByteArray} {w0 : World} {j pos fuel : Nat} {wr : World} (h : At s w0 j pos fuel wr) (hp : ¬ pos < s.size) : (runes s).drop j = [] := by
  rw [← h.rest]
  cases fuel with
  | zero => rfl
  | succ f => rw [rs, if_neg hp]
theorem one_row (w : World) (r : Int) : Kd.C (Kd.int .i32) (w.alloc (.cells #[.int .i32 r] 21)) (some ⟨w.heap.size, 0, none⟩) [r].length [r] := by
  refine Kd.C_of_reads (d := 0) ⟨rfl, by simp, fun _ => ⟨_, rfl, fun j hj => ?_⟩⟩
  obtain rfl : j = 0 := by simp at hj; omega
  exact World.cell?_alloc_mark w #[.int .i32 r] 21 (0, 0) 0
theorem At.lt {s : ByteArray} {w0 : World} {j pos fuel : Nat} {wr : World} (h : At s w0 j pos fuel wr) : w0.heap.size < wr.heap.size := (Array.getElem?_eq_some_iff.1 h.it).1
theorem At.below {s : ByteArray} {w0 : World} {j pos fuel : Nat} {wr w1 : World} (h : At s w0 j pos fuel wr) (hb : Below wr.heap.size wr w1) : At s w0 j pos fuel w1 :=
  ⟨h.hj, (hb.block _ h.lt).trans h.it, more_below h.bel hb, h.rest, h.fu⟩
theorem At.grown {s : ByteArray} {w0 : World} {j pos fuel : Nat} {wr w1 : World} (h : At s w0 j pos fuel wr) {row : Option Nat} (hg : wr.grownBy w1 row) (hne : some w0.heap.size ≠ row) (hb : Below w0.heap.size w0 w1) : At s w0 j pos fuel w1 :=
  ⟨h.hj, (hg.block _ h.lt hne).trans h.it, hb, h.rest, h.fu⟩
theorem made_cls {W0 W1 : World} {base : Nat} {ok : Nat → Prop} {u : Value} {l : List S67} {b : Bool} (hu : Kd.R k67 67 W1 W0.heap.size ok u l) (hbase : base ≤ W0.heap.size) : kP.M W1 base (fun k => W0.heap.size ≤ k) (.cls l b) [.iface 57 (.agg #[u, .bool b])] :=
  ⟨_, rfl, u, rfl, Kd.R_lower (Kd.R_mono (Kd.R_bound hu) (fun _ hk => hk.2.1)) hbase⟩
theorem drawn_below {w w1 : World} (h : Drawn0 w w1) : Below w.heap.size w w1 := by
  obtain ⟨n, rfl⟩ := h
  exact pw_below_drewN (Below.refl _ _) n
theorem view_of_read {k : IntKind} {w : World} {A : Option Addr} {n : Nat} {xs : List Int} (h : Kd.C (Kd.int k) w A n xs) : Kd.F (Kd.int k) w (fun j => ∃ ad, A = some ad ∧ j = ad.block) A n xs := by
  intro W' hW
  refine ⟨h.1, h.2.1, fun hn => ?_⟩
  obtain ⟨ad, e, hc⟩ := h.2.2 hn
  refine ⟨ad, e, fun j p hj => ?_⟩
  obtain ⟨c, h1, hK, hcc⟩ := hc j p hj
  refine ⟨c, h1, hK, fun i u hu => ?_⟩
  have h2 := hcc i u hu
  have hb : (ad.add (j * (Kd.int k).sz + i)).block = ad.block := add_block _ _
  have hlt := World.block_lt_of_cell? w _ h2
  rw [hb] at hlt
  have h3 := hW ad.block ⟨ad, e, rfl⟩ hlt
  unfold World.cell? at h2 ⊢
  rw [hb] at h2 ⊢
  rw [h3]
  exact h2
theorem apart_ok {w0 wq : World} {s : ByteArray} {j pos f : Nat} (hA : At s w0 j pos f wq) {u : Value} {out : List Pt} (hR : Kd.R kP 51 wq w0.heap.size (fun k => k ≠ w0.heap.size) u out) {N : Nat} (hN : wq.heap.size ≤ N) : ∀ k, N ≤ k → k ≠ w0.heap.size ∧ some k ≠ u.ownBlock := by
  intro k hk
  have h1 := hA.lt
  refine ⟨by omega, fun e => ?_⟩
  have := Kd.R_lt hR k e.symm
  omega
theorem append_part {ops : Array Oper} {rest : List Oper} {o : Oper} {a : Act} {Q : Exit → Act → World → Prop} {s : ByteArray} {w0 W : World} {j pos f : Nat} (hgd : o.guard = none) (x y : Operand) (ho : o.op = .call { callee := .builtin .append, args := #[x, y], argTypes := #[36, 36] })
    (v : Value) (out : List Pt) (p : Pt) (cv : Value) (okp : Nat → Prop) (hs : a.eval x = v) (hx : a.eval y = .slice (some ⟨W.heap.size, 0, none⟩) 1 1) (hp : kP.M W w0.heap.size okp p [cv]) (hokp : ∀ k, okp k → k ≠ w0.heap.size ∧ some k ≠ v.ownBlock)
    (HO : Kd.R kP 51 W w0.heap.size (fun k => k ≠ w0.heap.size) v out) (HA : At s w0 j pos f W) (hl : out.length ≤ 2000)
    (h : ∀ v1 w1, Kd.R kP 51 w1 w0.heap.size (fun k => k ≠ w0.heap.size) v1 (out ++ [p]) → At s w0 j pos f w1 → wpList Try.prog ops Q rest (a.put o.dst v1) w1) :
    wpList Try.prog ops Q (o :: rest) a (W.alloc (.cells #[cv] 51)) :=
  Kd.R_append kP (w0 := w0) (W := W) w0.heap.size hgd x y 36 51 .nilIface 16 ho Try.underlying36 info51 rfl (Nat.lt_succ_self 0) (by omega) v out p [cv] (fun k => k ≠ w0.heap.size) okp hs hx hp hokp (fun k hk => by have := HA.lt; omega) HO HA.bel HA.bel.size (by omega)
    (fun v1 w1 h1 h2 h3 _ => h v1 w1 h1 (HA.grown h3 (fun e => HO.1 _ e.symm rfl) h2))
set_option maxHeartbeats 8000000 in
set_option maxRecDepth 100000 in
theorem parts_calls (s : ByteArray) (hs : s.size ≤ 1000) (w : World) :
    Calls Try.prog 19 #[.string s] w fun e w' => ∃ v, e = .returned v ∧ Kd.R kP 51 w' w.heap.size (fun _ => True) v (prt (runes s) 0) ∧ Below w.heap.size w w' := by
  have hrl := runes_len s
  obtain ⟨c, w0, hconv, hc, hw0, B0, C0⟩ := runes_conv s (by omega) w
  have HC0 := Aside0.mk C0
  have HB0 := Aside0.mk B0
  clear C0 B0
  go_enter Try.func19, Try.ntmps19
  go_wp2
  go_step3
  go_wp2
  go_step3
  go_wp2
  go_loopg [3, 4, 6] (runes s).length (fun gg s3 s4 s6 wr => ∃ (j pos fuel skip : Nat) (out : List Pt), s4 = .int .i64 skip ∧ s6 = .int .i64 ((j : Int) - 1) ∧ (runes s).length - j ≤ gg ∧ skip ≤ 2000 ∧ Aside0 (Kd.R kP 51 wr w0.heap.size (fun k => k ≠ w0.heap.size) s3 out) ∧ Aside0 (At s w0 j pos fuel wr) ∧ Aside0 (out ++ prt ((runes s).drop j) skip = prt (runes s) 0) ∧ Aside0 (out.length ≤ j))
  case atStart =>
    refine ⟨0, 0, s.size, 0, [], rfl, rfl, by omega, by omega, ⟨Kd.R_nil _ _ _ _ _⟩, ⟨⟨Nat.zero_le _, by simp [World.iter_heap], below_alloc (Below.refl _ _) _, rfl, by omega⟩⟩, ⟨rfl⟩, ⟨Nat.le_refl _⟩⟩
  case round =>
    obtain ⟨j, pos, fuel, skip, out, rfl, rfl, hg, hskip, HR, HA, HO, HL⟩ := hrel
    by_cases hp : pos < s.size
    · have hnx : ∀ ty, (Instr.next (.pointer (some ⟨w0.heap.size, 0, none⟩)) true ty).run Try.prog wr = _ := fun ty => Lib.run_next_any_at wr w0.heap.size s pos ty HA.out.it hp
      obtain ⟨f, rfl, hd, hlt, hA⟩ := HA.out.step hp
      have HR1 := Aside0.mk (Kd.R_step (w1 := wr.iterAt w0.heap.size s (pos + (Utf8.decode s pos).2)) HR.out (fun k hk _ => Lib.iterAt_other wr _ k s _ hk))
      have HA1 := Aside0.mk hA
      clear hA HR HA
      obtain ⟨r, hr⟩ : ∃ r : Int, r = ((Utf8.decode s pos).1 : Int) := ⟨_, rfl⟩
      obtain ⟨wq, hwq⟩ : ∃ wq, wq = wr.iterAt w0.heap.size s (pos + (Utf8.decode s pos).2) := ⟨_, rfl⟩
      rw [← hr] at hnx hd
      rw [← hwq] at hnx HR1 HA1
      rw [hw0] at hnx
      have HW := Aside0.mk hwq
      have Hr := Aside0.mk hr
      clear hr hwq
      obtain ⟨Ao, co, rfl⟩ := Kd.R_slice HR1.out
      go_upto_region 9 with fail
      cases skip with
      | succ n =>
        go_wp2
        go_roundg ((runes s).length - (j + 1))
        case measure => omega
        case rel => exact ⟨j + 1, pos + (Utf8.decode s pos).2, f, n, out, by go_num, by go_num, by omega, by omega, HR1, HA1, ⟨by rw [← HO.out, hd]; rfl⟩, ⟨by have := HL.out; omega⟩⟩
      | zero =>
        obtain ⟨ti, hti, _, hsz, _⟩ := info_parts info21
        have hcut := cut_from (P := Try.prog) 31 21 .i64 Try.underlying31 hti 1 hsz (some ⟨w.heap.size, 0, none⟩) (runes s).length c ((j + 1 : Nat) : Int) (by omega) (by omega)
        have hdr := Kd.C_drop (m := j + 1) (c := c) (Kd.C_below HC0.out HA1.out.bel) (by omega) hc
        obtain ⟨A9, hA9⟩ : ∃ A1 : Option Addr, A1 = (if c = j + 1 then some (⟨w.heap.size, 0, none⟩ : Addr) else (some (⟨w.heap.size, 0, none⟩ : Addr)).map (fun x => x.add ((j + 1) * 1))) := ⟨_, rfl⟩
        obtain ⟨c9, hc9⟩ : ∃ c1, c1 = c - (j + 1) := ⟨_, rfl⟩
        obtain ⟨T, hT⟩ : ∃ T, T = (runes s).drop (j + 1) := ⟨_, rfl⟩
        have hTl : T.length = (runes s).length - (j + 1) := by rw [hT, List.length_drop]
        have HD : Aside0 (Kd.C (Kd.int .i32) wq A9 T.length T) := ⟨by rw [hA9, hT]; exact hdr⟩
        simp only [Int.toNat_natCast] at hcut
        rw [← hA9, ← hTl, ← hc9] at hcut
        rw [show ((j + 1 : Nat) : Int) = (j : Int) + 1 by omega] at hcut
        have hTc : T.length ≤ c9 := by omega
        have HT := Aside0.mk hT
        have HTL := Aside0.mk hTl
        clear hdr hti hsz hA9 hT hc9 hTl
        by_cases h42 : r = 42
        · subst h42
          go_wp2_with (first | ((with_reducible refine gate_builtin (b := .append) (xs := #[.tmp 37, .tmp 40]) rfl ?_); at_builtin; refine append_part rfl (.tmp 37) (.tmp 40) rfl (.slice Ao out.length co) out Pt.many (.iface 48 (.agg #[])) (fun _ => False) rfl rfl ⟨_, rfl, rfl⟩ (fun _ h => h.elim) HR1.out HA1.out (by have := HL.out; omega) ?_; intro v1 wz ho hz))
          go_roundg ((runes s).length - (j + 1))
          case measure => omega
          case rel =>
            refine ⟨j + 1, pos + (Utf8.decode s pos).2, f, 0, out ++ [Pt.many], by go_num, by go_num, by omega, by omega, ⟨ho⟩, ⟨hz⟩, ⟨?_⟩, ⟨by have := HL.out; rw [List.length_append, List.length_singleton]; omega⟩⟩
            rw [← HO.out, hd, List.append_assoc, ← HT.out]
            simp [prt]
        · by_cases h63 : r = 63
          · subst h63
            go_wp2_with fail
            refine (glob_anyone.calls _ _ _ anyone_f).mono ?_
            rintro e w2 ⟨u, rfl, hu, hb2⟩
            have HA2 := Aside0.mk (HA1.out.below hb2)
            have HR2 := Aside0.mk (Kd.R_below HR1.out hb2)
            have HU := Aside0.mk (made_cls (base := w0.heap.size) (b := true) hu (by have := HA1.out.lt; omega))
            have HOK := Aside0.mk (apart_ok HA1.out HR1.out (Nat.le_refl _))
            clear hu
            go_wp2_with (first | ((with_reducible refine gate_builtin (b := .append) (xs := #[.tmp 45, .tmp 48]) rfl ?_); at_builtin; refine append_part rfl (.tmp 45) (.tmp 48) rfl (.slice Ao out.length co) out (Pt.cls [] true) (.iface 57 (.agg #[u, .bool true])) (fun k => wq.heap.size ≤ k) rfl rfl HU.out HOK.out HR2.out HA2.out (by have := HL.out; omega) ?_; intro v1 wz ho hz))
            go_roundg ((runes s).length - (j + 1))
            case measure => omega
            case rel =>
              refine ⟨j + 1, pos + (Utf8.decode s pos).2, f, 0, out ++ [Pt.cls [] true], by go_num, by go_num, by omega, by omega, ⟨ho⟩, ⟨hz⟩, ⟨?_⟩, ⟨by have := HL.out; rw [List.length_append, List.length_singleton]; omega⟩⟩
              rw [← HO.out, hd, List.append_assoc, ← HT.out]
              simp [prt]
          · by_cases h91 : r = 91
            · subst h91
              have hclt := clo_lt T
              go_wp2_with fail
              refine (glob_closed.calls (T.length + 3) _ _ T (clo T) _ HD.out hTc (closed_f T (by have := HTL.out; omega))).mono ?_
              rintro e w2 ⟨rfl, hn2⟩
              have hb2 := drawn_below hn2
              clear hn2
              have HD2 := Aside0.mk (Kd.C_below HD.out hb2)
              have HA2 := Aside0.mk (HA1.out.below hb2)
              have HR2 := Aside0.mk (Kd.R_below HR1.out hb2)
              clear hb2
              by_cases hcl : 0 < clo T
              · obtain ⟨n, hn⟩ : ∃ n : Nat, clo T = (n : Int) := ⟨(clo T).toNat, by omega⟩
                have hclt' := hclt hcl
                rw [hn] at hclt' hcl ⊢
                have hn1000 : n ≤ 1000 := by have := HTL.out; omega
                go_wp2_with fail
                refine (glob_closed.calls (T.length + 3) _ _ T (clo T) _ HD2.out hTc (closed_f T (by have := HTL.out; omega))).mono ?_
                rintro e w3 ⟨rfl, hn3⟩
                have hb3 := drawn_below hn3
                clear hn3
                have HD3 := Aside0.mk (Kd.C_below HD2.out hb3)
                have HA3 := Aside0.mk (HA2.out.below hb3)
                have HR3 := Aside0.mk (Kd.R_below HR2.out hb3)
                clear hb3
                rw [hn]
                obtain ⟨tj, htj, _, _, _⟩ := info_parts info21
                have hcut2 := cut_to (P := Try.prog) 31 21 .i64 Try.underlying31 htj A9 T.length c9 (n : Int) (by omega) (by omega) hTc
                obtain ⟨U, hU⟩ : ∃ U, U = T.take n := ⟨_, rfl⟩
                have hUl : U.length = n := by rw [hU, List.length_take]; omega
                have hCU : Kd.C (Kd.int .i32) w3 A9 U.length U := by rw [hU]; exact Kd.C_take HD3.out (by omega)
                rw [Int.toNat_natCast, ← hUl] at hcut2
                have HV := Aside0.mk (Kd.V_mk (e := 21) (base := w3.heap.size) (c := c9) (by omega) (view_of_read hCU))
                have hw := within_f U (by omega) (by have := HTL.out; omega)
                clear htj hCU
                have HU' := Aside0.mk hU
                have HUL := Aside0.mk hUl
                clear hU hUl
                have HW' := Aside0.mk hw
                clear hw
                go_wp2_with fail
                rw [show #[Value.slice A9 n c9] = #[Value.slice A9 U.length c9] from by rw [HUL.out]]
                refine (glob_within.calls _ _ _ _ _ _ _ _ HV.out HW'.out).mono ?_
                rintro e w4 ⟨u, rfl, hu, hb4⟩
                have HA4 := Aside0.mk (HA3.out.below hb4)
                have HR4 := Aside0.mk (Kd.R_below HR3.out hb4)
                have HM := made_cls (base := w0.heap.size) (b := (cla U).no) hu (by have := HA3.out.lt; omega)
                rw [← cla_cls] at HM
                have HU := Aside0.mk HM
                have HOK := Aside0.mk (apart_ok HA3.out HR3.out (Nat.le_refl _))
                clear hu HM
                go_wp2_with (first | ((with_reducible refine gate_builtin (b := .append) (xs := #[.tmp 61, .tmp 68]) rfl ?_); at_builtin; refine append_part rfl (.tmp 61) (.tmp 68) rfl (.slice Ao out.length co) out (cla U) (.iface 57 (.agg #[u, .bool (cla U).no])) (fun k => w3.heap.size ≤ k) rfl rfl HU.out HOK.out HR4.out HA4.out (by have := HL.out; omega) ?_; intro v1 wz ho hz))
                go_roundg ((runes s).length - (j + 1))
                case measure => omega
                case rel =>
                  refine ⟨j + 1, pos + (Utf8.decode s pos).2, f, (n + 1), out ++ [cla U], by go_num, by go_num, by omega, by omega, ⟨ho⟩, ⟨hz⟩, ⟨?_⟩, ⟨by have := HL.out; rw [List.length_append, List.length_singleton]; omega⟩⟩
                  rw [← HO.out, hd, List.append_assoc, ← HT.out]
                  rw [prt]; rw [if_neg (by omega), if_neg (by omega), if_pos ⟨rfl, by omega⟩, hn, Int.toNat_natCast, HU'.out]; rfl
              · go_wp2_with fail
                refine (glob_one.calls 2 _ _ [91] _ _ _ (one_row _ 91) (by simp) (one_f 91)).mono ?_
                rintro e w3 ⟨u, rfl, hu, hb3⟩
                have hb3' := more_below (below_alloc (Below.refl _ _) _) hb3
                have HA3 := Aside0.mk (HA2.out.below hb3')
                have HR3 := Aside0.mk (Kd.R_below HR2.out hb3')
                have HU := Aside0.mk (made_cls (base := w0.heap.size) (b := false) hu (by have := HA2.out.lt; simp; omega))
                have HOK := Aside0.mk (apart_ok HA2.out HR2.out (N := (w2.alloc (.cells #[.int .i32 91] 21)).heap.size) (by simp))
                clear hu hb3'
                go_wp2_with (first | ((with_reducible refine gate_builtin (b := .append) (xs := #[.tmp 27, .tmp 32]) rfl ?_); at_builtin; refine append_part rfl (.tmp 27) (.tmp 32) rfl (.slice Ao out.length co) out (Pt.cls [⟨91, 91⟩] false) (.iface 57 (.agg #[u, .bool false])) (fun k => (w2.alloc (.cells #[.int .i32 91] 21)).heap.size ≤ k) rfl rfl HU.out HOK.out HR3.out HA3.out (by have := HL.out; omega) ?_; intro v1 wz ho hz))
                go_roundg ((runes s).length - (j + 1))
                case measure => omega
                case rel =>
                  refine ⟨j + 1, pos + (Utf8.decode s pos).2, f, 0, out ++ [Pt.cls [⟨91, 91⟩] false], by go_num, by go_num, by omega, by omega, ⟨ho⟩, ⟨hz⟩, ⟨?_⟩, ⟨by have := HL.out; rw [List.length_append, List.length_singleton]; omega⟩⟩
                  rw [← HO.out, hd, List.append_assoc, ← HT.out]
                  rw [prt]; rw [if_neg (by omega), if_neg (by omega), if_neg (fun h => absurd h.2 (by omega)), if_neg (fun h => absurd h.1 (by omega))]; rfl
            · by_cases h92 : r = 92
              · subst h92
                by_cases hlen : 0 < T.length
                · obtain ⟨a9, ea, hcell⟩ := Kd.at_int HD.out 0 (by omega) (by omega)
                  subst ea
                  have ha0 : a9.add (0 : Int).toNat = a9 := by simp [Addr.add]
                  rw [ha0] at hcell
                  go_wp2_with fail
                  refine (glob_one.calls 2 _ _ [rd T 0] _ _ _ (one_row _ (rd T 0)) (by simp) (one_f (rd T 0))).mono ?_
                  rintro e w3 ⟨u, rfl, hu, hb3⟩
                  have hb3' := more_below (below_alloc (Below.refl _ _) _) hb3
                  have HA3 := Aside0.mk (HA1.out.below hb3')
                  have HR3 := Aside0.mk (Kd.R_below HR1.out hb3')
                  have HU := Aside0.mk (made_cls (base := w0.heap.size) (b := false) hu (by have := HA1.out.lt; simp; omega))
                  have HOK := Aside0.mk (apart_ok HA1.out HR1.out (N := (wq.alloc (.cells #[.int .i32 (rd T 0)] 21)).heap.size) (by simp))
                  clear hu hb3'
                  go_wp2_with (first | ((with_reducible refine gate_builtin (b := .append) (xs := #[.tmp 78, .tmp 85]) rfl ?_); at_builtin; refine append_part rfl (.tmp 78) (.tmp 85) rfl (.slice Ao out.length co) out (Pt.cls [⟨rd T 0, rd T 0⟩] false) (.iface 57 (.agg #[u, .bool false])) (fun k => (wq.alloc (.cells #[.int .i32 (rd T 0)] 21)).heap.size ≤ k) rfl rfl HU.out HOK.out HR3.out HA3.out (by have := HL.out; omega) ?_; intro v1 wz ho hz))
                  go_roundg ((runes s).length - (j + 1))
                  case measure => omega
                  case rel =>
                    refine ⟨j + 1, pos + (Utf8.decode s pos).2, f, 1, out ++ [Pt.cls [⟨rd T 0, rd T 0⟩] false], by go_num, by go_num, by omega, by omega, ⟨ho⟩, ⟨hz⟩, ⟨?_⟩, ⟨by have := HL.out; rw [List.length_append, List.length_singleton]; omega⟩⟩
                    rw [← HO.out, hd, List.append_assoc, ← HT.out]
                    rw [prt]; rw [if_neg (by omega), if_neg (by omega), if_neg (fun h => absurd h.1 (by omega)), if_pos ⟨rfl, hlen⟩]; rfl
                · go_wp2_with fail
                  refine (glob_one.calls 2 _ _ [92] _ _ _ (one_row _ 92) (by simp) (one_f 92)).mono ?_
                  rintro e w3 ⟨u, rfl, hu, hb3⟩
                  have hb3' := more_below (below_alloc (Below.refl _ _) _) hb3
                  have HA3 := Aside0.mk (HA1.out.below hb3')
                  have HR3 := Aside0.mk (Kd.R_below HR1.out hb3')
                  have HU := Aside0.mk (made_cls (base := w0.heap.size) (b := false) hu (by have := HA1.out.lt; simp; omega))
                  have HOK := Aside0.mk (apart_ok HA1.out HR1.out (N := (wq.alloc (.cells #[.int .i32 92] 21)).heap.size) (by simp))
                  clear hu hb3'
                  go_wp2_with (first | ((with_reducible refine gate_builtin (b := .append) (xs := #[.tmp 27, .tmp 32]) rfl ?_); at_builtin; refine append_part rfl (.tmp 27) (.tmp 32) rfl (.slice Ao out.length co) out (Pt.cls [⟨92, 92⟩] false) (.iface 57 (.agg #[u, .bool false])) (fun k => (wq.alloc (.cells #[.int .i32 92] 21)).heap.size ≤ k) rfl rfl HU.out HOK.out HR3.out HA3.out (by have := HL.out; omega) ?_; intro v1 wz ho hz))
                  go_roundg ((runes s).length - (j + 1))
                  case measure => omega
                  case rel =>
                    refine ⟨j + 1, pos + (Utf8.decode s pos).2, f, 0, out ++ [Pt.cls [⟨92, 92⟩] false], by go_num, by go_num, by omega, by omega, ⟨ho⟩, ⟨hz⟩, ⟨?_⟩, ⟨by have := HL.out; rw [List.length_append, List.length_singleton]; omega⟩⟩
                    rw [← HO.out, hd, List.append_assoc, ← HT.out]
                    rw [prt]; rw [if_neg (by omega), if_neg (by omega), if_neg (fun h => absurd h.1 (by omega)), if_neg (fun h => hlen h.2)]; rfl
              · go_wp2_with fail
                refine (glob_one.calls 2 _ _ [r] _ _ _ (one_row _ r) (by simp) (one_f r)).mono ?_
                rintro e w3 ⟨u, rfl, hu, hb3⟩
                have hb3' := more_below (below_alloc (Below.refl _ _) _) hb3
                have HA3 := Aside0.mk (HA1.out.below hb3')
                have HR3 := Aside0.mk (Kd.R_below HR1.out hb3')
                have HU := Aside0.mk (made_cls (base := w0.heap.size) (b := false) hu (by have := HA1.out.lt; simp; omega))
                have HOK := Aside0.mk (apart_ok HA1.out HR1.out (N := (wq.alloc (.cells #[.int .i32 r] 21)).heap.size) (by simp))
                clear hu hb3'
                go_wp2_with (first | ((with_reducible refine gate_builtin (b := .append) (xs := #[.tmp 27, .tmp 32]) rfl ?_); at_builtin; refine append_part rfl (.tmp 27) (.tmp 32) rfl (.slice Ao out.length co) out (Pt.cls [⟨r, r⟩] false) (.iface 57 (.agg #[u, .bool false])) (fun k => (wq.alloc (.cells #[.int .i32 r] 21)).heap.size ≤ k) rfl rfl HU.out HOK.out HR3.out HA3.out (by have := HL.out; omega) ?_; intro v1 wz ho hz))
                go_roundg ((runes s).length - (j + 1))
                case measure => omega
                case rel =>
                  refine ⟨j + 1, pos + (Utf8.decode s pos).2, f, 0, out ++ [Pt.cls [⟨r, r⟩] false], by go_num, by go_num, by omega, by omega, ⟨ho⟩, ⟨hz⟩, ⟨?_⟩, ⟨by have := HL.out; rw [List.length_append, List.length_singleton]; omega⟩⟩
                  rw [← HO.out, hd, List.append_assoc, ← HT.out]
                  rw [prt]; rw [if_neg h42, if_neg h63, if_neg (fun h => h91 h.1), if_neg (fun h => h92 h.1)]; rfl
    · have hnx : ∀ ty, (Instr.next (.pointer (some ⟨w0.heap.size, 0, none⟩)) true ty).run Try.prog wr = _ := fun ty => Lib.run_next_end_at wr w0.heap.size s pos ty HA.out.it hp
      rw [hw0] at hnx
      have hO := HO.out
      rw [HA.out.stop hp] at hO
      simp only [prt, List.append_nil] at hO
      have HO' := Aside0.mk hO
      clear hO
      go_wp2
      rw [Exit.noGoto_ret]
      go_ret
      rw [← HO'.out]
      exact ⟨_, rfl, Kd.R_mono (Kd.R_lower HR.out (by omega)) (fun _ _ => trivial), more_below HB0.out (HA.out.bel)⟩
end Go.Proofs.Ytmejbponpkkobaa.P
