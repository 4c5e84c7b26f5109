/- What makes a request: its bytes, out of its arguments. Conditions: that the table of powers of ten lies as the program lays it. -/
import Derived.Test.YtjcbbmjmhfimcaaDoorPK6
import Derived.Test.YtjcbbmjmhfimcaaDoorPureDig
import Derived.Test.YtjcbbmjmhfimcaaDoorShJ
import Derived.Test.YtjcbbmjmhfimcaaDoorPx1
namespace Go.Proofs.YtjcbbmjmhfimcaaDoor.P
open Go.RowKit Go.Lib Go.Proofs.YtjcbbmjmhfimcaaDoorW.PrintWords Go.Proofs.YtjcbbmjmhfimcaaDoorW.PrintLast Go.Proofs.YtjcbbmjmhfimcaaDoorW.PrintMore
attribute [local go_sem] Oper.semAt_some

theorem format_calls (n : Int) (h0 : -9223372036854775808 ≤ n) (h1 : n ≤ 9223372036854775807) (w : World) (ht : Tab w) :
    Calls Tryd.prog 21 #[.int .i64 n] w fun e w' => e = .returned (.string (textOf n)) ∧ Below w.heap.size w w' := by
  have HT := Aside0.mk ht
  clear ht
  go_enter Tryd.func21, Tryd.ntmps21
  go_wp2_with fail
  refine (Tryd.strconv_FormatInt_10 n h0 h1 _ HT.out).mono ?_
  rintro e w1 ⟨rfl, k, os, rfl⟩
  have hb : Below w.heap.size w (Go.Sort.grow (w.drewN k) os) := by
    have hs : (Go.Sort.grow (w.drewN k) os).heap = w.heap ++ os := rfl
    refine ⟨rfl, rfl, rfl, by rw [hs, Array.size_append]; omega, fun i hi => ?_⟩
    rw [hs, Array.getElem?_append_left hi]
  generalize Go.Sort.grow (w.drewN k) os = w2 at hb ⊢
  go_wp2
  go_ret
  exact ⟨rfl, hb⟩
/-- Texts, each with an end behind it. -/
def joinedB (xs : List ByteArray) : ByteArray := ⟨(Lib.join (xs.map (·.data.toList)) [13, 10]).toArray⟩ ++ crlf
theorem joined_calls (xs : List ByteArray) (hn : 0 < xs.length) (hl : xs.length ≤ 1000) (hj : (Lib.join (xs.map (·.data.toList)) [13, 10]).length ≤ 1000000) (base : Nat) (v : Value) (w : World) (hv : Kd.R Kd.string 9 w base (fun _ => True) v xs) :
    Calls Tryd.prog 22 #[v] w fun e w' => e = .returned (.string (joinedB xs)) ∧ Below w.heap.size w w' := by
  obtain ⟨_, ⟨_, h0⟩ | ⟨g, cap, cur, rfl, h1, h2, h3, h4, h5, h6⟩⟩ := Kd.own_of_R hv
  · omega
  have hc : ∀ (j : Nat) x, xs[j]? = some x → w.cell? ⟨g, 0 + j, none⟩ = some (.string x) := fun j x hx => by
    obtain ⟨hjl, hxe⟩ := List.getElem?_eq_some_iff.1 hx
    have := (Kd.R_cell ByteArray.empty hv (j : Int) (by omega) (by omega)).1
    rw [Nat.zero_add]
    rw [Int.toNat_natCast] at this
    rw [this]
    congr 2
    unfold rdOf
    rw [Int.toNat_natCast, List.getD_eq_getElem?_getD, hx]
    rfl
  have hlt : g < w.heap.size := (Array.getElem?_eq_some_iff.1 h2).1
  have hcall := Tryd.strings_Join g 0 cap xs crlf w hc hlt (by omega) h3 (by show (Lib.join (xs.map (·.data.toList)) [13, 10]).length ≤ _; omega)
  have hsz : (⟨(Lib.join (xs.map (·.data.toList)) [13, 10]).toArray⟩ : ByteArray).size ≤ 1000000 := by rw [size_eq]; exact hj
  clear hc h2 h5 h6 hv
  have hJ : joinedB xs = (⟨(Lib.join (xs.map (·.data.toList)) [13, 10]).toArray⟩ : ByteArray) ++ crlf := rfl
  have hcall : Calls Tryd.prog 25 #[.slice (some ⟨g, 0, none⟩) xs.length cap, .string ⟨#[13, 10]⟩] w fun e w' => e = .returned (.string ⟨(Lib.join (xs.map (·.data.toList)) [13, 10]).toArray⟩) ∧ Below w.heap.size w w' := hcall
  generalize (⟨(Lib.join (xs.map (·.data.toList)) [13, 10]).toArray⟩ : ByteArray) = J at hcall hsz hJ
  have HJ := Aside0.mk hJ
  clear hJ
  have hszz : (J.size : Int) ≤ 1000000 := by omega
  generalize xs.length = m at hcall
  go_enter Tryd.func22, Tryd.ntmps22
  go_wp2_with fail
  refine hcall.mono ?_
  rintro e w1 ⟨rfl, hb⟩
  clear hcall
  go_wp2
  go_ret
  rw [HJ.out]
  exact ⟨rfl, hb⟩
/-- The texts of a request, ahead of their ends. -/
def pieces (l : List ByteArray) : List ByteArray := l.flatMap fun s => [(⟨#[36]⟩ : ByteArray) ++ textOf s.size, s]
def makeB (l : List ByteArray) : ByteArray × Int :=
  if l.length = 0 ∨ 64 < l.length ∨ ∃ s ∈ l, 512 < s.size then (⟨#[]⟩, 40) else (joinedB (((⟨#[42]⟩ : ByteArray) ++ textOf l.length) :: pieces l), 0)
theorem pieces_len (l : List ByteArray) : (pieces l).length = 2 * l.length := by
  induction l with
  | nil => rfl
  | cons x t ih =>
    unfold pieces at ih ⊢
    rw [List.flatMap_cons, List.length_append, ih]
    simp only [List.length_cons, List.length_nil]
    omega
theorem pieces_snoc (l : List ByteArray) (s : ByteArray) : pieces (l ++ [s]) = pieces l ++ [(⟨#[36]⟩ : ByteArray) ++ textOf s.size, s] := by
  unfold pieces
  rw [List.flatMap_append]
  rfl
theorem two_row (W : World) (a b : ByteArray) : Kd.C Kd.string (W.alloc (.cells #[.string a, .string b] 9)) (some ⟨W.heap.size, 0, none⟩) 2 [a, b] := by
  refine Kd.C_of_reads (d := ByteArray.empty) ⟨rfl, by decide, fun _ => ⟨_, rfl, fun j hj => ?_⟩⟩
  have h2 : j = 0 ∨ j = 1 := by have : j < 2 := hj; omega
  rcases h2 with rfl | rfl
  · exact World.cell?_alloc_mark W #[.string a, .string b] 9 (0, 0) 0
  · exact World.cell?_alloc_mark W #[.string a, .string b] 9 (0, 0) 1
theorem append_two {ops : Array Oper} {rest : List Oper} {o : Oper} {ac : Act} {Q : Exit → Act → World → Prop} (w0 W : World) (hgd : o.guard = none) (x y : Operand) (ho : o.op = .call { callee := .builtin .append, args := #[x, y], argTypes := #[22, 22] })
    (v : Value) (out : List ByteArray) (a b : ByteArray) (hs : ac.eval x = v) (hx : ac.eval y = .slice (some ⟨W.heap.size, 0, none⟩) 2 2)
    (HO : Kd.R Kd.string 9 W w0.heap.size (fun _ => True) v out) (HB : Below w0.heap.size w0 W) (hl : out.length ≤ 2000)
    (h : ∀ v1 w1, Kd.R Kd.string 9 w1 w0.heap.size (fun _ => True) v1 (out ++ [a, b]) → Below w0.heap.size w0 w1 → wpList Tryd.prog ops Q rest (ac.put o.dst v1) w1) :
    wpList Tryd.prog ops Q (o :: rest) ac (W.alloc (.cells #[.string a, .string b] 9)) :=
  Kd.R_append_row Value.string ByteArray.empty (w0 := w0) w0.heap.size hgd x y 22 9 (.string ⟨#[]⟩) 16 ho Tryd.underlying22 info9s rfl (by decide) v out [a, b] (some ⟨W.heap.size, 0, none⟩) 2 2 (fun _ => True) hs hx (fun _ _ => trivial) (Kd.R_alloc HO _) (two_row W a b) (below_alloc HB _) (by have := HB.size; simp; omega) (by omega) (fun v1 w1 h1 h2 _ _ => h v1 w1 h1 h2)
theorem join_len : ∀ (l : List (List UInt8)) (n : Nat), (∀ x ∈ l, x.length ≤ n) → (Lib.join l [13, 10]).length ≤ l.length * (n + 2)
  | [], _, _ => by simp [Lib.join_nil]
  | x :: t, n, h => by
    rw [Lib.join_cons]
    have hx := h x List.mem_cons_self
    have ht : (Lib.joinTail [13, 10] t).length ≤ t.length * (n + 2) := by
      clear hx
      induction t with
      | nil => simp [Lib.joinTail]
      | cons y t ih =>
        have hy := h y (List.mem_cons_of_mem _ List.mem_cons_self)
        have := ih (fun z hz => h z (by
          rcases List.mem_cons.1 hz with rfl | hz
          · exact List.mem_cons_self
          · exact List.mem_cons_of_mem _ (List.mem_cons_of_mem _ hz)))
        unfold Lib.joinTail at this ⊢
        rw [List.map_cons, List.flatten_cons, List.length_append, List.length_append]
        simp only [List.length_cons, List.length_nil, Nat.succ_mul]
        omega
    rw [List.length_append, List.length_cons, Nat.succ_mul]
    omega
theorem rd_mem {l : List ByteArray} {j : Nat} (h : j < l.length) : rdOf ByteArray.empty l (j : Int) ∈ l := by
  rw [rdOf, Int.toNat_natCast, List.getD_eq_getElem?_getD, List.getElem?_eq_getElem h]
  exact List.getElem_mem h
theorem pieces_small (l : List ByteArray) (h : ∀ s ∈ l, s.size ≤ 512) : ∀ y ∈ pieces l, y.size ≤ 600 := by
  intro y hy
  unfold pieces at hy
  obtain ⟨s, hs, hy⟩ := List.mem_flatMap.1 hy
  have := h s hs
  rcases List.mem_cons.1 hy with rfl | hy
  · rw [ByteArray.size_append]
    have h1 : (⟨#[36]⟩ : ByteArray).size = 1 := rfl
    have h2 := text_len (s.size : Int) (by omega) (by omega)
    omega
  · obtain rfl := List.mem_singleton.1 hy
    omega
theorem one_own (W : World) (base : Nat) (p : ByteArray) (h : base ≤ W.heap.size) : Kd.R Kd.string 9 (W.alloc (.cells #[.string p] 9)) base (fun _ => True) (.slice (some ⟨W.heap.size, 0, none⟩) 1 1) [p] := by
  refine Kd.R_of_own ⟨rfl, .inr ⟨W.heap.size, 1, #[.string p], rfl, h, World.alloc_heap_new W _, Nat.le_refl _, by decide, rfl, rfl⟩⟩ (fun _ _ => trivial)
theorem tab_below {w w1 : World} (h : Tab w) (hl : 2 < w.heap.size) (hb : Below w.heap.size w w1) : Tab w1 := by
  unfold Tab Lib.TabIs World.var? at *
  rw [tab_global] at *
  simp only [Option.bind_some] at *
  rw [hb.block 1 (by omega)]
  exact h
set_option maxHeartbeats 8000000 in
set_option maxRecDepth 100000 in
theorem make_calls (l : List ByteArray) (hsz : ∀ s ∈ l, s.size ≤ 100000) (hl : l.length ≤ 100000) (A : Option Addr) (c : Nat) (w : World) (hT : Tab w) (hG : 2 < w.heap.size) (hC : Kd.C Kd.string w A l.length l) :
    Calls Tryd.prog 17 #[.slice A l.length c] w fun e w' => e = .returned (.tuple #[.string (makeB l).1, .int .i64 (makeB l).2]) ∧ Below w.heap.size w w' := by
  have HT := Aside0.mk hT
  have HC := Aside0.mk hC
  have HS := Aside0.mk hsz
  clear hT hC hsz
  by_cases h0 : l.length = 0
  · have hM : makeB l = (⟨#[]⟩, 40) := by unfold makeB; rw [if_pos (.inl h0)]
    have HM := Aside0.mk hM
    clear hM
    generalize l.length = m at h0 hl
    subst h0
    go_enter Tryd.func17, Tryd.ntmps17
    go_wp2
    go_ret2
    rw [HM.out]
    exact ⟨rfl, Below.refl _ _⟩
  by_cases h64 : 64 < l.length
  · have hM : makeB l = (⟨#[]⟩, 40) := by unfold makeB; rw [if_pos (.inr (.inl h64))]
    have HM := Aside0.mk hM
    have h64z : (64 : Int) < (l.length : Int) := by omega
    have h0z : ¬ (l.length : Int) = 0 := by omega
    clear hM
    generalize l.length = m at *
    go_enter Tryd.func17, Tryd.ntmps17
    go_wp2
    go_ret2
    rw [HM.out]
    exact ⟨rfl, Below.refl _ _⟩
  have hcall := format_calls (l.length : Int) (by omega) (by omega) w HT.out
  have htl := text_len (l.length : Int) (by omega) (by omega)
  obtain ⟨T, hTT⟩ : ∃ T, T = textOf (l.length : Int) := ⟨_, rfl⟩
  rw [← hTT] at hcall htl
  have HTT := Aside0.mk hTT
  have h64z : ¬ (64 : Int) < (l.length : Int) := by omega
  have h0z : ¬ (l.length : Int) = 0 := by omega
  have htz : (T.size : Int) ≤ 20 := by omega
  clear hTT htl
  go_enter Tryd.func17, Tryd.ntmps17
  go_wp2_with fail
  refine hcall.mono ?_
  rintro e w1 ⟨rfl, hb1⟩
  have HB1 := Aside0.mk hb1
  clear hcall hb1
  go_wp2
  have hR0 := one_own w1 w.heap.size ((⟨#[42]⟩ : ByteArray) ++ T) HB1.out.size
  have HR0 := Aside0.mk hR0
  have HA0 := Aside0.mk (below_alloc HB1.out (.cells #[.string ((⟨#[42]⟩ : ByteArray) ++ T)] 9))
  clear hR0
  go_loopg [4, 22] l.length (fun gg s4 s22 wr => ∃ (j : Nat), s22 = .int .i64 j ∧ j ≤ l.length ∧ l.length - j ≤ gg ∧ Aside0 (∀ s ∈ l.take j, s.size ≤ 512) ∧ Aside0 (Kd.R Kd.string 9 wr w.heap.size (fun _ => True) s4 (((⟨#[42]⟩ : ByteArray) ++ T) :: pieces (l.take j))) ∧ Aside0 (Below w.heap.size w wr))
  case atStart => exact ⟨0, rfl, by omega, by omega, ⟨by simp⟩, HR0, HA0⟩
  case round =>
    obtain ⟨j, rfl, hj, hg, HSm, HR, HB⟩ := hrel
    have hS := Kd.R_slice HR.out
    obtain ⟨lo, hlo⟩ : ∃ m, m = (((⟨#[42]⟩ : ByteArray) ++ T) :: pieces (l.take j)).length := ⟨_, rfl⟩
    rw [← hlo] at hS
    obtain ⟨Ao, co, rfl⟩ := hS
    have hlen : (((⟨#[42]⟩ : ByteArray) ++ T) :: pieces (l.take j)).length ≤ 200 := by
      rw [List.length_cons, pieces_len, List.length_take]
      omega
    have HLO := Aside0.mk hlo
    have HLN := Aside0.mk hlen
    clear hlo hlen
    by_cases hlt : j < l.length
    · have hltz : (j : Int) < (l.length : Int) := by omega
      obtain ⟨ad, e, hx⟩ := Kd.at_string (Kd.C_below HC.out HB.out) (j : Int) (by omega) hltz
      cases e
      rw [Int.toNat_natCast] at hx
      have htk : l.take (j + 1) = l.take j ++ [rdOf ByteArray.empty l (j : Int)] := by
        rw [List.take_succ_eq_append_getElem hlt]
        congr 2
        unfold rdOf
        rw [Int.toNat_natCast, List.getD_eq_getElem?_getD, List.getElem?_eq_getElem hlt]
        rfl
      have hsm : rdOf ByteArray.empty l (j : Int) ∈ l := rd_mem hlt
      generalize rdOf ByteArray.empty l (j : Int) = s at hx htk hsm
      have hss := HS.out s hsm
      have HTK := Aside0.mk htk
      have HSM := Aside0.mk hsm
      clear htk hsm
      by_cases h512 : 512 < s.size
      · have h512z : (512 : Int) < (s.size : Int) := by omega
        have hM : makeB l = (⟨#[]⟩, 40) := by unfold makeB; rw [if_pos (.inr (.inr ⟨s, HSM.out, h512⟩))]
        have HM := Aside0.mk hM
        clear hM
        go_wp2
        go_ret2
        rw [HM.out]
        exact ⟨rfl, HB.out⟩
      · have h512z : ¬ (512 : Int) < (s.size : Int) := by omega
        have hfc := format_calls (s.size : Int) (by omega) (by omega) wr (tab_below HT.out hG HB.out)
        have htl := text_len (s.size : Int) (by omega) (by omega)
        obtain ⟨U, hU⟩ : ∃ U, U = textOf (s.size : Int) := ⟨_, rfl⟩
        rw [← hU] at hfc htl
        have HU := Aside0.mk hU
        have huz : (U.size : Int) ≤ 20 := by omega
        clear hU htl
        go_wp2_with fail
        refine hfc.mono ?_
        rintro e w2 ⟨rfl, hb2⟩
        have HR2 := Aside0.mk (Kd.R_below HR.out hb2)
        have HB2 := Aside0.mk (HB.out.trans (hb2.mono HB.out.size))
        clear hfc hb2
        go_wp2_with (first | ((with_reducible refine gate_builtin (b := .append) (xs := #[.tmp 29, .tmp 35]) rfl ?_); at_builtin; refine append_two w w2 rfl (.tmp 29) (.tmp 35) rfl _ (((⟨#[42]⟩ : ByteArray) ++ T) :: pieces (l.take j)) ((⟨#[36]⟩ : ByteArray) ++ U) s rfl rfl HR2.out HB2.out (by have := HLN.out; omega) ?_; intro v1 wz ho hbz))
        go_roundg (l.length - (j + 1))
        case measure => omega
        case rel =>
          refine ⟨j + 1, by go_num, by omega, by omega, ⟨?_⟩, ⟨?_⟩, ⟨hbz⟩⟩
          · rw [HTK.out]
            intro y hy
            rcases List.mem_append.1 hy with hy | hy
            · exact HSm.out y hy
            · obtain rfl := List.mem_singleton.1 hy
              omega
          · rw [HTK.out, pieces_snoc, ← HU.out]
            exact ho
    · obtain rfl : j = l.length := by omega
      have hjz : ¬ ((l.length : Nat) : Int) < (l.length : Int) := by omega
      have hno : ∀ s ∈ l, s.size ≤ 512 := by have := HSm.out; rwa [List.take_length] at this
      have hR3 := HR.out
      rw [List.take_length] at hR3
      have hM : makeB l = (joinedB (((⟨#[42]⟩ : ByteArray) ++ T) :: pieces l), 0) := by
        unfold makeB
        rw [if_neg, HTT.out]
        rintro (h | h | ⟨s, hs, h⟩)
        · exact h0 h
        · exact h64 h
        · have := hno s hs; omega
      have hjl : (Lib.join ((((⟨#[42]⟩ : ByteArray) ++ T) :: pieces l).map (·.data.toList)) [13, 10]).length ≤ 1000000 := by
        refine Nat.le_trans (join_len _ 600 ?_) ?_
        · intro x hx
          obtain ⟨y, hy, rfl⟩ := List.mem_map.1 hx
          rw [← size_eq]
          rcases List.mem_cons.1 hy with rfl | hy
          · rw [ByteArray.size_append]
            have : (⟨#[42]⟩ : ByteArray).size = 1 := rfl
            omega
          · exact pieces_small l (fun s hs => hno s hs) y hy
        · rw [List.length_map, List.length_cons, pieces_len]
          omega
      have hjc := joined_calls (((⟨#[42]⟩ : ByteArray) ++ T) :: pieces l) (by simp) (by rw [List.length_cons, pieces_len]; omega) hjl w.heap.size _ wr hR3
      have HM := Aside0.mk hM
      generalize joinedB (((⟨#[42]⟩ : ByteArray) ++ T) :: pieces l) = JJ at hjc HM
      clear hM hjl hR3 hno
      go_wp2_with fail
      refine hjc.mono ?_
      rintro e w3 ⟨rfl, hb3⟩
      have HB3 := Aside0.mk (HB.out.trans (hb3.mono HB.out.size))
      clear hjc hb3
      go_wp2
      go_ret2
      rw [HM.out]
      exact ⟨rfl, HB3.out⟩
end Go.Proofs.YtjcbbmjmhfimcaaDoor.P
