/- The law ParsePieces: a call of it answers true. Conditions: that the package's variables lie as the program lays them. -/
import Derived.Test.YtjcbbmjmhfimcaaDoorPureRun
namespace Go.Proofs.YtjcbbmjmhfimcaaDoor.P
open Go.RowKit Go.Lib Go.Proofs.YtjcbbmjmhfimcaaDoorW.PrintWords Go.Proofs.YtjcbbmjmhfimcaaDoorW.PrintLast Go.Proofs.YtjcbbmjmhfimcaaDoorW.PrintMore
attribute [local go_sem] Oper.semAt_some

theorem cut_calls (s : ByteArray) (w : World) : Calls Tryd.prog 11 #[.string s] w fun e w' => e = .returned (.string (s.extract 0 (mn (s.size : Int) 3000).toNat)) ∧ Below w.heap.size w w' := by
  have h1 : 0 ≤ mn (s.size : Int) 3000 ∧ mn (s.size : Int) 3000 ≤ (s.size : Int) := by unfold mn; split <;> omega
  refine paliolaw04_cut.calls s _ w ?_
  unfold paliolaw04_cut.f
  rw [if_pos h1.1, if_pos h1.2]
theorem cut_small (s : ByteArray) : (s.extract 0 (mn (s.size : Int) 3000).toNat).size ≤ 3000 := by
  rw [ByteArray.size_extract]
  unfold mn
  split <;> omega
theorem feed_ok {r a : ByteArray} (h : r.size + a.size ≤ 3000) : feedB r false a = (0, r ++ a) := by
  unfold feedB
  rw [if_neg (by simp), if_neg (by omega)]
theorem feed_bad (r a : ByteArray) : feedB r true a = (40, r) := rfl
theorem all_bad (r : ByteArray) : allB 4000 r true [] = ([], 40, r, true) := allB_wrong 3999 r []
/-- A piece comes where something is wrong. -/
theorem Pcs.more {s r a c : ByteArray} {got : List ByteArray} {g : Int} (h : Pcs s r (a ++ c) true got g) : Pcs s r c true (got ++ []) 40 := by
  obtain ⟨h1, h2, h3, h4⟩ := h.bad rfl
  exact ⟨fun e => (by cases e), fun _ => ⟨rfl, by rw [List.append_nil]; exact h2, h3, h4⟩⟩
/-- What is told when all has come. -/
theorem Pcs.last {s r : ByteArray} {b : Bool} {got : List ByteArray} {g : Int} (h : Pcs s r ⟨#[]⟩ b got g) (hr : b = false → (allB 4000 r false []).1 = [] ∧ (allB 4000 r false []).2.1 = 31 ∧ (allB 4000 r false []).2.2.1 = r) :
    (allB 4000 s false []).1 = got ∧ (allB 4000 s false []).2.1 = g ∧ (g = 40 ∨ (allB 4000 s false []).2.2.1 = r) := by
  cases b with
  | true =>
    obtain ⟨h1, h2, h3, _⟩ := h.bad rfl
    exact ⟨h2, by rw [h1]; exact h3, .inl h1⟩
  | false =>
    obtain ⟨h1, h2, h3⟩ := h.ok rfl
    obtain ⟨k1, k2, k3⟩ := hr rfl
    rw [show r ++ (⟨#[]⟩ : ByteArray) = r from ByteArray.append_empty, allB_out 4000 r got] at h2
    rw [h2, k1]
    exact ⟨by simp, by rw [h1]; exact k2, .inr k3⟩
/-- What is kept behind all has no request more. -/
theorem all_again : ∀ (f : Nat) (s : ByteArray), s.size < f → (allB f s false []).2.2.2 = false → (allB f (allB f s false []).2.2.1 false []).1 = [] ∧ (allB f (allB f s false []).2.2.1 false []).2.1 = 31 ∧ (allB f (allB f s false []).2.2.1 false []).2.2.1 = (allB f s false []).2.2.1 := by
  have key : ∀ (f g : Nat) (s : ByteArray) (out : List ByteArray), s.size < f → s.size < g → (allB f s false out).2.2.2 = false → (allB g (allB f s false out).2.2.1 false []).1 = [] ∧ (allB g (allB f s false out).2.2.1 false []).2.1 = 31 ∧ (allB g (allB f s false out).2.2.1 false []).2.2.1 = (allB f s false out).2.2.1 := by
    intro f
    induction f with
    | zero => intro g s out h; exact absurd h (by omega)
    | succ f ih =>
      intro g s out hf hg hb
      rw [allB_false] at hb ⊢
      by_cases h : (splitB s).2.1 = 0
      · rw [if_neg (fun k => k h)] at hb ⊢
        have := splitB_less s h
        exact ih g _ _ (by omega) (by omega) hb
      · rw [if_pos h] at hb ⊢
        simp only at hb ⊢
        obtain ⟨hr, hl⟩ := splitB_rest s h
        obtain ⟨_, _, k3⟩ := split_app s ⟨#[]⟩
        have h31 : (splitB s).2.1 = 31 := by
          rcases k3 with e | e | e
          · exact absurd e h
          · exact e
          · rw [e] at hb; cases hb
        obtain ⟨g, rfl⟩ : ∃ m, g = m + 1 := ⟨g - 1, by omega⟩
        rw [hr, allB_false, if_pos h, h31]
        exact ⟨rfl, rfl, hr⟩
  exact fun f s hf hb => key f f s [] hf hf hb
theorem ext_split (x : ByteArray) (k : Nat) : x.extract 0 k ++ x.extract k x.size = x := by
  rw [← mk_of (x.extract 0 k ++ x.extract k x.size), app_list, extract_eq, extract_eq]
  show mk (List.take (k - 0) (List.drop 0 x.data.toList) ++ List.take (x.size - k) (List.drop k x.data.toList)) = x
  rw [List.drop_zero, Nat.sub_zero, List.take_of_length_le (l := List.drop k x.data.toList) (by rw [List.length_drop, ← size_eq]; exact Nat.le_refl _), List.take_append_drop]
  exact mk_of x
theorem ext_all (x : ByteArray) : x.extract x.size x.size = ⟨#[]⟩ := by
  rw [extract_eq, Nat.sub_self]
  rfl
theorem piece_len (m : Nat) (x : Int) : ∃ k : Nat, min (m : Int) (wrap64 ((IntKind.u64.wrap x).tmod 100)) = (k : Int) ∧ k ≤ m := by
  have h0 : 0 ≤ IntKind.u64.wrap x := by
    rw [IntKind.wrap_u64]
    omega
  have h1 : (IntKind.u64.wrap x).tmod 100 = IntKind.u64.wrap x % 100 := Int.tmod_eq_emod_of_nonneg h0
  rw [h1]
  have h2 : wrap64 (IntKind.u64.wrap x % 100) = IntKind.u64.wrap x % 100 := by
    generalize IntKind.u64.wrap x = u at h0
    unfold wrap64
    omega
  rw [h2]
  refine ⟨(min (m : Int) (IntKind.u64.wrap x % 100)).toNat, ?_, ?_⟩
  · generalize IntKind.u64.wrap x = u at h0
    omega
  · generalize IntKind.u64.wrap x = u at h0
    omega
/-- The pieces' state, by the number of the round. -/
structure Rnd (s : ByteArray) (L i : Nat) (r rest : ByteArray) (b : Bool) (got : List ByteArray) (g : Int) : Prop where
  pc : Pcs s r rest b got g
  le : i ≤ L + 1
  fin : i = L + 1 → rest = ⟨#[]⟩
  ag : i = 0 ∨ (b = false → (allB 4000 r false []).1 = [] ∧ (allB 4000 r false []).2.1 = 31 ∧ (allB 4000 r false []).2.2.1 = r)
  gl : got.length ≤ 260000 * i
  rs : r.size ≤ 3000 ∧ rest.size ≤ 3000
set_option maxHeartbeats 16000000 in
set_option maxRecDepth 100000 in
theorem pieces_law (s0 : ByteArray) (l : List Int) (A : Option Addr) (c : Nat) (w : World) (hG : G w) (hC : Kd.C (Kd.int .i64) w A l.length l) (hl : l.length ≤ maxLen) :
    Calls Tryd.prog 4 #[.string s0, .slice A l.length c] w fun e w' => e = .returned (.bool true) ∧ Below w.heap.size w w' := by
  have HG := Aside0.mk hG
  have HC := Aside0.mk hC
  have h2 := hG.lt
  have hcs := cut_small s0
  clear hG hC
  obtain ⟨n, hn⟩ : ∃ n, n = l.length := ⟨_, rfl⟩
  have HN := Aside0.mk hn
  rw [← hn] at hl ⊢
  clear hn
  unfold maxLen at hl
  go_enter Tryd.func4, Tryd.ntmps4
  go_wp2_with fail
  refine (shown_calls w HG.out).mono ?_
  rintro e w1 ⟨rfl, b1⟩
  have B1 := Aside0.mk b1
  clear b1
  go_wp2_with fail
  refine (cut_calls s0 w1).mono ?_
  rintro e w2 ⟨rfl, b2⟩
  generalize s0.extract 0 (mn (s0.size : Int) 3000).toNat = s at hcs ⊢
  have B2 := Aside0.mk (B1.out.trans (b2.mono B1.out.size))
  clear b2 B1
  go_wp2_with fail
  refine (new_calls w2).mono ?_
  rintro e w3 ⟨rfl, p3, b3⟩
  have hP := B2.out.size
  have hpl := Blk.lt p3
  have B3 := Aside0.mk (B2.out.trans (b3.mono B2.out.size))
  have P3 := Aside0.mk p3
  clear p3 b3 B2
  generalize w2.heap.size = p at hP P3 hpl ⊢
  go_wp2_with fail
  refine (new_calls w3).mono ?_
  rintro e w4 ⟨rfl, q4, b4⟩
  have hQ := B3.out.size
  have hql := Blk.lt q4
  have hpq : p ≠ w3.heap.size := by omega
  have B4 := Aside0.mk (B3.out.trans (b4.mono B3.out.size))
  have P4 := Aside0.mk (Blk.below P3.out b4)
  have Q4 := Aside0.mk q4
  clear q4 b4 B3 P3
  have hpl4 := Blk.lt P4.out
  generalize w3.heap.size = q at hQ Q4 hql hpq hpl ⊢
  go_wp2_with fail
  refine (feed_calls p ⟨#[]⟩ false s (by decide) (by omega) w4 P4.out).mono ?_
  rintro e w5 ⟨rfl, p5, g5⟩
  rw [feed_ok (by have : (⟨#[]⟩ : ByteArray).size = 0 := rfl; omega), show (⟨#[]⟩ : ByteArray) ++ s = s from ByteArray.empty_append] at p5
  rw [feed_ok (by have : (⟨#[]⟩ : ByteArray).size = 0 := rfl; omega)]
  have B5 := Aside0.mk (below_grown B4.out g5 hP)
  have P5 := Aside0.mk p5
  have Q5 := Aside0.mk (Blk.grown Q4.out g5 (fun e => hpq (by cases e; rfl)))
  clear p5 g5 P4 Q4
  go_wp2_with fail
  have hcall := all_calls p s false (by omega) 4000 (by omega) w5 (HG.out.below B5.out) (by omega) P5.out
  refine hcall.mono ?_
  rintro e w6 ⟨v6, rfl, r6, p6, g6⟩
  have hql5 := Blk.lt Q5.out
  have hpl5 := Blk.lt P5.out
  have B6 := Aside0.mk (below_grown B5.out g6 hP)
  have P6 := Aside0.mk p6
  have Q6 := Aside0.mk (Blk.grown Q5.out g6 (fun e => hpq (by cases e; rfl)))
  have W6 := Aside0.mk (Kd.R_mono (ok' := fun k => w5.heap.size ≤ k ∧ k < w6.heap.size) (Kd.R_bound r6) (fun k hk => ⟨hk.2.1, hk.2.2.1⟩))
  obtain ⟨mw, hmw⟩ : ∃ m, m = (allB 4000 s false []).1.length := ⟨_, rfl⟩
  have hS := Kd.R_slice r6
  rw [← hmw] at hS
  obtain ⟨A6, c6, rfl⟩ := hS
  have HMW := Aside0.mk hmw
  have hz6 := g6.size
  clear p6 g6 r6 P5 Q5 hcall hmw
  go_wp2
  obtain ⟨L, hL⟩ : ∃ L, L = min n 60 := ⟨_, rfl⟩
  have HL := Aside0.mk hL
  have hB0 := B6.out.size
  have HLT := Aside0.mk (show p < w6.heap.size ∧ q < w6.heap.size ∧ p < w5.heap.size ∧ q < w5.heap.size ∧ 2 < p ∧ 2 < q by omega)
  clear hql hql5 hpl5 hpl4 hpl hz6 hL
  go_loopg [11, 12, 13, 14] (L + 2) (fun gg v11 v12 v13 v14 wr => ∃ (i : Nat) (r rest : ByteArray) (b : Bool) (got : List ByteArray) (g : Int), v12 = .int .i64 g ∧ v13 = .string rest ∧ v14 = .int .i64 i ∧ L + 2 - i ≤ gg ∧ Aside0 (Rnd s L i r rest b got g) ∧ Aside0 (Kd.R Kd.string 9 wr w6.heap.size (fun k => w6.heap.size ≤ k) v11 got) ∧ Aside0 (Par wr q r b) ∧ Aside0 (Par wr p (allB 4000 s false []).2.2.1 (allB 4000 s false []).2.2.2) ∧ Aside0 (Kd.R Kd.string 9 wr w5.heap.size (fun k => w5.heap.size ≤ k ∧ k < w6.heap.size) (.slice A6 mw c6) (allB 4000 s false []).1) ∧ Aside0 (Below w.heap.size w wr ∧ w6.heap.size ≤ wr.heap.size))
  case atStart => exact ⟨0, ⟨#[]⟩, s, false, [], 31, rfl, rfl, rfl, by omega, ⟨⟨Pcs.start s hcs, by omega, fun e => by omega, .inl rfl, Nat.zero_le _, by have : (⟨#[]⟩ : ByteArray).size = 0 := rfl; omega⟩⟩, ⟨Kd.R_nil _ _ _ _ _⟩, Q6, P6, W6, ⟨B6.out, Nat.le_refl _⟩⟩
  case round =>
    obtain ⟨i, r, rest, b, got, g, rfl, rfl, rfl, hg, HR, HGo, HQ, HP, HW, HB⟩ := hrel
    obtain ⟨lo, hlo⟩ : ∃ m, m = got.length := ⟨_, rfl⟩
    have hS := Kd.R_slice HGo.out
    rw [← hlo] at hS
    obtain ⟨Ao, co, rfl⟩ := hS
    have HLO := Aside0.mk hlo
    clear hlo
    have hrs := HR.out.rs
    have hle := HR.out.le
    by_cases hiL : i < L
    · have hin : i < n ∧ i < 60 := by have := HL.out; omega
      have hi1 : (i : Int) ≤ (n : Int) := by omega
      have hi2 : (i : Int) ≤ 60 := by omega
      have hi3 : (i : Int) < (n : Int) := by omega
      have hi4 : (i : Int) < 60 := by omega
      have hcl : Kd.C (Kd.int .i64) wr A n l := by have := Kd.C_below HC.out HB.out.1; rw [← HN.out] at this; exact this
      obtain ⟨ad, e, hx⟩ := Kd.at_int hcl (i : Int) (by omega) hi3
      cases e
      rw [Int.toNat_natCast] at hx
      go_upto_region 16 with fail
      obtain ⟨k, hke, hk⟩ := piece_len rest.size (rd l (i : Int))
      rw [hke]
      clear hke
      have hrk := ext_split rest k
      have hak : (rest.extract 0 k).size = k := by rw [ByteArray.size_extract]; omega
      have hck : (rest.extract k rest.size).size = rest.size - k := by rw [ByteArray.size_extract]; omega
      have hkz : (k : Int) ≤ (rest.size : Int) := by omega
      have hfc := feed_calls q r b (rest.extract 0 k) (by omega) (by omega) wr HQ.out
      obtain ⟨a, ha⟩ : ∃ a, a = rest.extract 0 k := ⟨_, rfl⟩
      obtain ⟨d, hd⟩ : ∃ d, d = rest.extract k rest.size := ⟨_, rfl⟩
      rw [← ha, ← hd] at hrk
      rw [← ha] at hak hfc
      rw [← hd] at hck
      have HA := Aside0.mk ha
      have HD := Aside0.mk hd
      have HRK := Aside0.mk hrk
      have HAK := Aside0.mk hak
      have HCK := Aside0.mk hck
      clear ha hd hrk hak hck
      cases b with
      | false =>
        obtain ⟨hg31, hall, hsz⟩ := HR.out.pc.ok rfl
        clear hall
        subst hg31
        have hra : r.size + a.size ≤ 3000 := by have := HAK.out; omega
        rw [feed_ok hra] at hfc
        go_wp2_with fail
        rw [← HA.out]
        refine hfc.mono ?_
        rintro e w7 ⟨rfl, q7, g7⟩
        obtain ⟨z1, z2, z3, z4, z5, z6⟩ := HLT.out
        have HB7 := Aside0.mk (show Below w.heap.size w w7 ∧ w6.heap.size ≤ w7.heap.size from ⟨below_grown HB.out.1 g7 hQ, Nat.le_trans HB.out.2 g7.size⟩)
        have HQ7 := Aside0.mk q7
        have HP7 := Aside0.mk (Blk.grown HP.out g7 (fun e => hpq (by cases e; rfl)))
        have HG7 := Aside0.mk (Kd.R_grown HGo.out g7 (fun k hk e => by cases e; omega))
        have HW7 := Aside0.mk (Kd.R_grown HW.out g7 (fun k hk e => by cases e; omega))
        clear q7 g7 hfc
        have hac := all_calls q (r ++ a) false (by rw [ByteArray.size_append]; omega) 4000 (by omega) w7 (HG.out.below HB7.out.1) z6 HQ7.out
        have hst := (show Pcs s r (a ++ d) false got 31 from by rw [HRK.out]; exact HR.out.pc).step
        have hag := all_again 4000 (r ++ a) (by rw [ByteArray.size_append]; omega)
        have hal := allB_len 4000 (r ++ a) false []
        have har := allB_rest 4000 (r ++ a) []
        generalize allB 4000 (r ++ a) false [] = q8 at hac hst hag hal har
        obtain ⟨l8, e8, r8, b8⟩ := q8
        simp only [List.length_nil, Nat.zero_add] at hac hst hag hal har
        have HST := Aside0.mk hst
        have HAG := Aside0.mk hag
        clear hst hag
        go_wp2_with fail
        refine hac.mono ?_
        rintro e w8 ⟨v8, rfl, k8, q8, g8⟩
        have HB8 := Aside0.mk (show Below w.heap.size w w8 ∧ w6.heap.size ≤ w8.heap.size from ⟨below_grown HB7.out.1 g8 hQ, Nat.le_trans HB7.out.2 g8.size⟩)
        have HQ8 := Aside0.mk q8
        have HP8 := Aside0.mk (Blk.grown HP7.out g8 (fun e => hpq (by cases e; rfl)))
        have HG8 := Aside0.mk (Kd.R_grown HG7.out g8 (fun k hk e => by cases e; omega))
        have HW8 := Aside0.mk (Kd.R_grown HW7.out g8 (fun k hk e => by cases e; omega))
        obtain ⟨A8, c8, rfl, hc8, d8⟩ := Kd.R_reads k8
        have D8 := Aside0.mk d8
        obtain ⟨m8, hm8⟩ : ∃ m, m = l8.length := ⟨_, rfl⟩
        have D8' : Aside0 (Kd.C Kd.string w8 A8 m8 l8) := ⟨by rw [hm8]; exact d8⟩
        rw [← hm8] at hal ⊢
        have HM8 := Aside0.mk hm8
        clear q8 g8 k8 d8 hac hm8 hc8 D8
        have hglen : lo + m8 ≤ 100000000 := by have := HLO.out; have := HR.out.gl; have := HL.out; omega
        have HGL := Aside0.mk hglen
        clear hglen
        go_wp2_with (first | ((with_reducible refine gate_builtin (b := .append) (xs := #[.tmp 80, .tmp 81]) rfl ?_); at_builtin; refine append_br w8 w6.heap.size rfl (.tmp 80) (.tmp 81) rfl _ got l8 A8 m8 c8 rfl rfl HG8.out D8'.out HB8.out.2 (by have := HLO.out; have := HGL.out; omega) ?_; intro v9 w9 hR9 hB9; have HR9 := Aside0.mk hR9; have HB9 := Aside0.mk hB9; clear hR9 hB9))
        rw [← HD.out]
        go_roundg (L + 2 - (i + 1))
        case measure => omega
        case rel =>
          refine ⟨i + 1, r8, d, b8, got ++ l8, e8, by go_num, by go_num, by go_num, by omega, ⟨⟨HST.out, by omega, ?_, .inr (fun hb => HAG.out hb), ?_, ?_⟩⟩, HR9, ⟨?_⟩, ⟨?_⟩, ⟨?_⟩, ⟨?_⟩⟩
          · intro e; omega
          · have := HLO.out; have := HR.out.gl; have := HM8.out
            rw [List.length_append]
            omega
          · have := HCK.out
            rw [ByteArray.size_append] at har
            omega
          · exact (HB9.out.block q z2).trans HQ8.out
          · exact (HB9.out.block p z1).trans HP8.out
          · exact Kd.R_step HW8.out (fun k hk _ => HB9.out.block k hk.2)
          · exact ⟨HB8.out.1.trans (HB9.out.mono hB0), Nat.le_trans HB8.out.2 HB9.out.size⟩
      | true =>
        have hg40 := (HR.out.pc.bad rfl).1
        subst hg40
        rw [feed_bad r a] at hfc
        go_wp2_with fail
        rw [← HA.out]
        refine hfc.mono ?_
        rintro e w7 ⟨rfl, q7, g7⟩
        obtain ⟨z1, z2, z3, z4, z5, z6⟩ := HLT.out
        have HB7 := Aside0.mk (show Below w.heap.size w w7 ∧ w6.heap.size ≤ w7.heap.size from ⟨below_grown HB.out.1 g7 hQ, Nat.le_trans HB.out.2 g7.size⟩)
        have HQ7 := Aside0.mk q7
        have HP7 := Aside0.mk (Blk.grown HP.out g7 (fun e => hpq (by cases e; rfl)))
        have HG7 := Aside0.mk (Kd.R_grown HGo.out g7 (fun k hk e => by cases e; omega))
        have HW7 := Aside0.mk (Kd.R_grown HW.out g7 (fun k hk e => by cases e; omega))
        clear q7 g7 hfc
        have hac := all_calls q r true (by omega) 4000 (by omega) w7 (HG.out.below HB7.out.1) z6 HQ7.out
        rw [all_bad r] at hac
        have hst := (show Pcs s r (a ++ d) true got 40 from by rw [HRK.out]; exact HR.out.pc).more
        simp only at hac
        have HST := Aside0.mk hst
        clear hst
        go_wp2_with fail
        refine hac.mono ?_
        rintro e w8 ⟨v8, rfl, k8, q8, g8⟩
        have HB8 := Aside0.mk (show Below w.heap.size w w8 ∧ w6.heap.size ≤ w8.heap.size from ⟨below_grown HB7.out.1 g8 hQ, Nat.le_trans HB7.out.2 g8.size⟩)
        have HQ8 := Aside0.mk q8
        have HP8 := Aside0.mk (Blk.grown HP7.out g8 (fun e => hpq (by cases e; rfl)))
        have HG8 := Aside0.mk (Kd.R_grown HG7.out g8 (fun k hk e => by cases e; omega))
        have HW8 := Aside0.mk (Kd.R_grown HW7.out g8 (fun k hk e => by cases e; omega))
        obtain ⟨A8, c8, rfl, hc8, d8⟩ := Kd.R_reads k8
        have D8' := Aside0.mk d8
        clear q8 g8 k8 d8 hac hc8
        simp only [List.length_nil] at D8' ⊢
        have hglen : lo + 0 ≤ 100000000 := by have := HLO.out; have := HR.out.gl; have := HL.out; omega
        have HGL := Aside0.mk hglen
        clear hglen
        go_wp2_with (first | ((with_reducible refine gate_builtin (b := .append) (xs := #[.tmp 80, .tmp 81]) rfl ?_); at_builtin; refine append_br w8 w6.heap.size rfl (.tmp 80) (.tmp 81) rfl _ got [] A8 0 c8 rfl rfl HG8.out D8'.out HB8.out.2 (by have := HLO.out; have := HGL.out; omega) ?_; intro v9 w9 hR9 hB9; have HR9 := Aside0.mk hR9; have HB9 := Aside0.mk hB9; clear hR9 hB9))
        rw [← HD.out]
        go_roundg (L + 2 - (i + 1))
        case measure => omega
        case rel =>
          refine ⟨i + 1, r, d, true, got ++ [], 40, by go_num, by go_num, by go_num, by omega, ⟨⟨HST.out, by omega, ?_, .inr (fun hb => by cases hb), ?_, ?_⟩⟩, HR9, ⟨?_⟩, ⟨?_⟩, ⟨?_⟩, ⟨?_⟩⟩
          · intro e; omega
          · have := HLO.out; have := HR.out.gl
            rw [List.append_nil]
            omega
          · have := HCK.out
            omega
          · exact (HB9.out.block q z2).trans HQ8.out
          · exact (HB9.out.block p z1).trans HP8.out
          · exact Kd.R_step HW8.out (fun k hk _ => HB9.out.block k hk.2)
          · exact ⟨HB8.out.1.trans (HB9.out.mono hB0), Nat.le_trans HB8.out.2 HB9.out.size⟩
    · by_cases hiE : i = L
      · have hin : i ≤ n ∧ i ≤ 60 := by have := HL.out; omega
        have hi1 : (i : Int) ≤ (n : Int) := by omega
        have hi2 : (i : Int) ≤ 60 := by omega
        have hile : i ≤ L := by omega
        have hio : i = n ∨ i = 60 := by have := HL.out; omega
        clear hiE
        by_cases h5 : i < n
        · have hi3 : (i : Int) < (n : Int) := by omega
          have hi4 : ¬ (i : Int) < 60 := by omega
          clear hio
          go_upto_region 16 with fail
          obtain ⟨k, hkd⟩ : ∃ k, k = rest.size := ⟨_, rfl⟩
          have hk : k ≤ rest.size := by omega
          have hext : rest.extract k rest.size = ⟨#[]⟩ := by rw [hkd]; exact ext_all rest
          have HEX := Aside0.mk hext
          rw [← hkd]
          clear hkd hext
          have hrk := ext_split rest k
          have hak : (rest.extract 0 k).size = k := by rw [ByteArray.size_extract]; omega
          have hck : (rest.extract k rest.size).size = rest.size - k := by rw [ByteArray.size_extract]; omega
          have hkz : (k : Int) ≤ (rest.size : Int) := by omega
          have hfc := feed_calls q r b (rest.extract 0 k) (by omega) (by omega) wr HQ.out
          obtain ⟨a, ha⟩ : ∃ a, a = rest.extract 0 k := ⟨_, rfl⟩
          obtain ⟨d, hd⟩ : ∃ d, d = rest.extract k rest.size := ⟨_, rfl⟩
          rw [← ha, ← hd] at hrk
          rw [← ha] at hak hfc
          rw [← hd] at hck
          have HA := Aside0.mk ha
          have HD := Aside0.mk hd
          have HRK := Aside0.mk hrk
          have HAK := Aside0.mk hak
          have HCK := Aside0.mk hck
          clear ha hd hrk hak hck
          cases b with
          | false =>
            obtain ⟨hg31, hall, hsz⟩ := HR.out.pc.ok rfl
            clear hall
            subst hg31
            have hra : r.size + a.size ≤ 3000 := by have := HAK.out; omega
            rw [feed_ok hra] at hfc
            go_wp2_with fail
            rw [← HA.out]
            refine hfc.mono ?_
            rintro e w7 ⟨rfl, q7, g7⟩
            obtain ⟨z1, z2, z3, z4, z5, z6⟩ := HLT.out
            have HB7 := Aside0.mk (show Below w.heap.size w w7 ∧ w6.heap.size ≤ w7.heap.size from ⟨below_grown HB.out.1 g7 hQ, Nat.le_trans HB.out.2 g7.size⟩)
            have HQ7 := Aside0.mk q7
            have HP7 := Aside0.mk (Blk.grown HP.out g7 (fun e => hpq (by cases e; rfl)))
            have HG7 := Aside0.mk (Kd.R_grown HGo.out g7 (fun k hk e => by cases e; omega))
            have HW7 := Aside0.mk (Kd.R_grown HW.out g7 (fun k hk e => by cases e; omega))
            clear q7 g7 hfc
            have hac := all_calls q (r ++ a) false (by rw [ByteArray.size_append]; omega) 4000 (by omega) w7 (HG.out.below HB7.out.1) z6 HQ7.out
            have hst := (show Pcs s r (a ++ d) false got 31 from by rw [HRK.out]; exact HR.out.pc).step
            have hag := all_again 4000 (r ++ a) (by rw [ByteArray.size_append]; omega)
            have hal := allB_len 4000 (r ++ a) false []
            have har := allB_rest 4000 (r ++ a) []
            generalize allB 4000 (r ++ a) false [] = q8 at hac hst hag hal har
            obtain ⟨l8, e8, r8, b8⟩ := q8
            simp only [List.length_nil, Nat.zero_add] at hac hst hag hal har
            have HST := Aside0.mk hst
            have HAG := Aside0.mk hag
            clear hst hag
            go_wp2_with fail
            refine hac.mono ?_
            rintro e w8 ⟨v8, rfl, k8, q8, g8⟩
            have HB8 := Aside0.mk (show Below w.heap.size w w8 ∧ w6.heap.size ≤ w8.heap.size from ⟨below_grown HB7.out.1 g8 hQ, Nat.le_trans HB7.out.2 g8.size⟩)
            have HQ8 := Aside0.mk q8
            have HP8 := Aside0.mk (Blk.grown HP7.out g8 (fun e => hpq (by cases e; rfl)))
            have HG8 := Aside0.mk (Kd.R_grown HG7.out g8 (fun k hk e => by cases e; omega))
            have HW8 := Aside0.mk (Kd.R_grown HW7.out g8 (fun k hk e => by cases e; omega))
            obtain ⟨A8, c8, rfl, hc8, d8⟩ := Kd.R_reads k8
            have D8 := Aside0.mk d8
            obtain ⟨m8, hm8⟩ : ∃ m, m = l8.length := ⟨_, rfl⟩
            have D8' : Aside0 (Kd.C Kd.string w8 A8 m8 l8) := ⟨by rw [hm8]; exact d8⟩
            rw [← hm8] at hal ⊢
            have HM8 := Aside0.mk hm8
            clear q8 g8 k8 d8 hac hm8 hc8 D8
            have hglen : lo + m8 ≤ 100000000 := by have := HLO.out; have := HR.out.gl; have := HL.out; omega
            have HGL := Aside0.mk hglen
            clear hglen
            go_wp2_with (first | ((with_reducible refine gate_builtin (b := .append) (xs := #[.tmp 80, .tmp 81]) rfl ?_); at_builtin; refine append_br w8 w6.heap.size rfl (.tmp 80) (.tmp 81) rfl _ got l8 A8 m8 c8 rfl rfl HG8.out D8'.out HB8.out.2 (by have := HLO.out; have := HGL.out; omega) ?_; intro v9 w9 hR9 hB9; have HR9 := Aside0.mk hR9; have HB9 := Aside0.mk hB9; clear hR9 hB9))
            rw [← HD.out]
            go_roundg (L + 2 - (i + 1))
            case measure => omega
            case rel =>
              refine ⟨i + 1, r8, d, b8, got ++ l8, e8, by go_num, by go_num, by go_num, by omega, ⟨⟨HST.out, by omega, ?_, .inr (fun hb => HAG.out hb), ?_, ?_⟩⟩, HR9, ⟨?_⟩, ⟨?_⟩, ⟨?_⟩, ⟨?_⟩⟩
              · intro _; rw [HD.out]; exact HEX.out
              · have := HLO.out; have := HR.out.gl; have := HM8.out
                rw [List.length_append]
                omega
              · have := HCK.out
                rw [ByteArray.size_append] at har
                omega
              · exact (HB9.out.block q z2).trans HQ8.out
              · exact (HB9.out.block p z1).trans HP8.out
              · exact Kd.R_step HW8.out (fun k hk _ => HB9.out.block k hk.2)
              · exact ⟨HB8.out.1.trans (HB9.out.mono hB0), Nat.le_trans HB8.out.2 HB9.out.size⟩
          | true =>
            have hg40 := (HR.out.pc.bad rfl).1
            subst hg40
            rw [feed_bad r a] at hfc
            go_wp2_with fail
            rw [← HA.out]
            refine hfc.mono ?_
            rintro e w7 ⟨rfl, q7, g7⟩
            obtain ⟨z1, z2, z3, z4, z5, z6⟩ := HLT.out
            have HB7 := Aside0.mk (show Below w.heap.size w w7 ∧ w6.heap.size ≤ w7.heap.size from ⟨below_grown HB.out.1 g7 hQ, Nat.le_trans HB.out.2 g7.size⟩)
            have HQ7 := Aside0.mk q7
            have HP7 := Aside0.mk (Blk.grown HP.out g7 (fun e => hpq (by cases e; rfl)))
            have HG7 := Aside0.mk (Kd.R_grown HGo.out g7 (fun k hk e => by cases e; omega))
            have HW7 := Aside0.mk (Kd.R_grown HW.out g7 (fun k hk e => by cases e; omega))
            clear q7 g7 hfc
            have hac := all_calls q r true (by omega) 4000 (by omega) w7 (HG.out.below HB7.out.1) z6 HQ7.out
            rw [all_bad r] at hac
            have hst := (show Pcs s r (a ++ d) true got 40 from by rw [HRK.out]; exact HR.out.pc).more
            simp only at hac
            have HST := Aside0.mk hst
            clear hst
            go_wp2_with fail
            refine hac.mono ?_
            rintro e w8 ⟨v8, rfl, k8, q8, g8⟩
            have HB8 := Aside0.mk (show Below w.heap.size w w8 ∧ w6.heap.size ≤ w8.heap.size from ⟨below_grown HB7.out.1 g8 hQ, Nat.le_trans HB7.out.2 g8.size⟩)
            have HQ8 := Aside0.mk q8
            have HP8 := Aside0.mk (Blk.grown HP7.out g8 (fun e => hpq (by cases e; rfl)))
            have HG8 := Aside0.mk (Kd.R_grown HG7.out g8 (fun k hk e => by cases e; omega))
            have HW8 := Aside0.mk (Kd.R_grown HW7.out g8 (fun k hk e => by cases e; omega))
            obtain ⟨A8, c8, rfl, hc8, d8⟩ := Kd.R_reads k8
            have D8' := Aside0.mk d8
            clear q8 g8 k8 d8 hac hc8
            simp only [List.length_nil] at D8' ⊢
            have hglen : lo + 0 ≤ 100000000 := by have := HLO.out; have := HR.out.gl; have := HL.out; omega
            have HGL := Aside0.mk hglen
            clear hglen
            go_wp2_with (first | ((with_reducible refine gate_builtin (b := .append) (xs := #[.tmp 80, .tmp 81]) rfl ?_); at_builtin; refine append_br w8 w6.heap.size rfl (.tmp 80) (.tmp 81) rfl _ got [] A8 0 c8 rfl rfl HG8.out D8'.out HB8.out.2 (by have := HLO.out; have := HGL.out; omega) ?_; intro v9 w9 hR9 hB9; have HR9 := Aside0.mk hR9; have HB9 := Aside0.mk hB9; clear hR9 hB9))
            rw [← HD.out]
            go_roundg (L + 2 - (i + 1))
            case measure => omega
            case rel =>
              refine ⟨i + 1, r, d, true, got ++ [], 40, by go_num, by go_num, by go_num, by omega, ⟨⟨HST.out, by omega, ?_, .inr (fun hb => by cases hb), ?_, ?_⟩⟩, HR9, ⟨?_⟩, ⟨?_⟩, ⟨?_⟩, ⟨?_⟩⟩
              · intro _; rw [HD.out]; exact HEX.out
              · have := HLO.out; have := HR.out.gl
                rw [List.append_nil]
                omega
              · have := HCK.out
                omega
              · exact (HB9.out.block q z2).trans HQ8.out
              · exact (HB9.out.block p z1).trans HP8.out
              · exact Kd.R_step HW8.out (fun k hk _ => HB9.out.block k hk.2)
              · exact ⟨HB8.out.1.trans (HB9.out.mono hB0), Nat.le_trans HB8.out.2 HB9.out.size⟩
        · have hi3 : ¬ (i : Int) < (n : Int) := by omega
          clear hio
          go_upto_region 16 with fail
          obtain ⟨k, hkd⟩ : ∃ k, k = rest.size := ⟨_, rfl⟩
          have hk : k ≤ rest.size := by omega
          have hext : rest.extract k rest.size = ⟨#[]⟩ := by rw [hkd]; exact ext_all rest
          have HEX := Aside0.mk hext
          rw [← hkd]
          clear hkd hext
          have hrk := ext_split rest k
          have hak : (rest.extract 0 k).size = k := by rw [ByteArray.size_extract]; omega
          have hck : (rest.extract k rest.size).size = rest.size - k := by rw [ByteArray.size_extract]; omega
          have hkz : (k : Int) ≤ (rest.size : Int) := by omega
          have hfc := feed_calls q r b (rest.extract 0 k) (by omega) (by omega) wr HQ.out
          obtain ⟨a, ha⟩ : ∃ a, a = rest.extract 0 k := ⟨_, rfl⟩
          obtain ⟨d, hd⟩ : ∃ d, d = rest.extract k rest.size := ⟨_, rfl⟩
          rw [← ha, ← hd] at hrk
          rw [← ha] at hak hfc
          rw [← hd] at hck
          have HA := Aside0.mk ha
          have HD := Aside0.mk hd
          have HRK := Aside0.mk hrk
          have HAK := Aside0.mk hak
          have HCK := Aside0.mk hck
          clear ha hd hrk hak hck
          cases b with
          | false =>
            obtain ⟨hg31, hall, hsz⟩ := HR.out.pc.ok rfl
            clear hall
            subst hg31
            have hra : r.size + a.size ≤ 3000 := by have := HAK.out; omega
            rw [feed_ok hra] at hfc
            go_wp2_with fail
            rw [← HA.out]
            refine hfc.mono ?_
            rintro e w7 ⟨rfl, q7, g7⟩
            obtain ⟨z1, z2, z3, z4, z5, z6⟩ := HLT.out
            have HB7 := Aside0.mk (show Below w.heap.size w w7 ∧ w6.heap.size ≤ w7.heap.size from ⟨below_grown HB.out.1 g7 hQ, Nat.le_trans HB.out.2 g7.size⟩)
            have HQ7 := Aside0.mk q7
            have HP7 := Aside0.mk (Blk.grown HP.out g7 (fun e => hpq (by cases e; rfl)))
            have HG7 := Aside0.mk (Kd.R_grown HGo.out g7 (fun k hk e => by cases e; omega))
            have HW7 := Aside0.mk (Kd.R_grown HW.out g7 (fun k hk e => by cases e; omega))
            clear q7 g7 hfc
            have hac := all_calls q (r ++ a) false (by rw [ByteArray.size_append]; omega) 4000 (by omega) w7 (HG.out.below HB7.out.1) z6 HQ7.out
            have hst := (show Pcs s r (a ++ d) false got 31 from by rw [HRK.out]; exact HR.out.pc).step
            have hag := all_again 4000 (r ++ a) (by rw [ByteArray.size_append]; omega)
            have hal := allB_len 4000 (r ++ a) false []
            have har := allB_rest 4000 (r ++ a) []
            generalize allB 4000 (r ++ a) false [] = q8 at hac hst hag hal har
            obtain ⟨l8, e8, r8, b8⟩ := q8
            simp only [List.length_nil, Nat.zero_add] at hac hst hag hal har
            have HST := Aside0.mk hst
            have HAG := Aside0.mk hag
            clear hst hag
            go_wp2_with fail
            refine hac.mono ?_
            rintro e w8 ⟨v8, rfl, k8, q8, g8⟩
            have HB8 := Aside0.mk (show Below w.heap.size w w8 ∧ w6.heap.size ≤ w8.heap.size from ⟨below_grown HB7.out.1 g8 hQ, Nat.le_trans HB7.out.2 g8.size⟩)
            have HQ8 := Aside0.mk q8
            have HP8 := Aside0.mk (Blk.grown HP7.out g8 (fun e => hpq (by cases e; rfl)))
            have HG8 := Aside0.mk (Kd.R_grown HG7.out g8 (fun k hk e => by cases e; omega))
            have HW8 := Aside0.mk (Kd.R_grown HW7.out g8 (fun k hk e => by cases e; omega))
            obtain ⟨A8, c8, rfl, hc8, d8⟩ := Kd.R_reads k8
            have D8 := Aside0.mk d8
            obtain ⟨m8, hm8⟩ : ∃ m, m = l8.length := ⟨_, rfl⟩
            have D8' : Aside0 (Kd.C Kd.string w8 A8 m8 l8) := ⟨by rw [hm8]; exact d8⟩
            rw [← hm8] at hal ⊢
            have HM8 := Aside0.mk hm8
            clear q8 g8 k8 d8 hac hm8 hc8 D8
            have hglen : lo + m8 ≤ 100000000 := by have := HLO.out; have := HR.out.gl; have := HL.out; omega
            have HGL := Aside0.mk hglen
            clear hglen
            go_wp2_with (first | ((with_reducible refine gate_builtin (b := .append) (xs := #[.tmp 80, .tmp 81]) rfl ?_); at_builtin; refine append_br w8 w6.heap.size rfl (.tmp 80) (.tmp 81) rfl _ got l8 A8 m8 c8 rfl rfl HG8.out D8'.out HB8.out.2 (by have := HLO.out; have := HGL.out; omega) ?_; intro v9 w9 hR9 hB9; have HR9 := Aside0.mk hR9; have HB9 := Aside0.mk hB9; clear hR9 hB9))
            rw [← HD.out]
            go_roundg (L + 2 - (i + 1))
            case measure => omega
            case rel =>
              refine ⟨i + 1, r8, d, b8, got ++ l8, e8, by go_num, by go_num, by go_num, by omega, ⟨⟨HST.out, by omega, ?_, .inr (fun hb => HAG.out hb), ?_, ?_⟩⟩, HR9, ⟨?_⟩, ⟨?_⟩, ⟨?_⟩, ⟨?_⟩⟩
              · intro _; rw [HD.out]; exact HEX.out
              · have := HLO.out; have := HR.out.gl; have := HM8.out
                rw [List.length_append]
                omega
              · have := HCK.out
                rw [ByteArray.size_append] at har
                omega
              · exact (HB9.out.block q z2).trans HQ8.out
              · exact (HB9.out.block p z1).trans HP8.out
              · exact Kd.R_step HW8.out (fun k hk _ => HB9.out.block k hk.2)
              · exact ⟨HB8.out.1.trans (HB9.out.mono hB0), Nat.le_trans HB8.out.2 HB9.out.size⟩
          | true =>
            have hg40 := (HR.out.pc.bad rfl).1
            subst hg40
            rw [feed_bad r a] at hfc
            go_wp2_with fail
            rw [← HA.out]
            refine hfc.mono ?_
            rintro e w7 ⟨rfl, q7, g7⟩
            obtain ⟨z1, z2, z3, z4, z5, z6⟩ := HLT.out
            have HB7 := Aside0.mk (show Below w.heap.size w w7 ∧ w6.heap.size ≤ w7.heap.size from ⟨below_grown HB.out.1 g7 hQ, Nat.le_trans HB.out.2 g7.size⟩)
            have HQ7 := Aside0.mk q7
            have HP7 := Aside0.mk (Blk.grown HP.out g7 (fun e => hpq (by cases e; rfl)))
            have HG7 := Aside0.mk (Kd.R_grown HGo.out g7 (fun k hk e => by cases e; omega))
            have HW7 := Aside0.mk (Kd.R_grown HW.out g7 (fun k hk e => by cases e; omega))
            clear q7 g7 hfc
            have hac := all_calls q r true (by omega) 4000 (by omega) w7 (HG.out.below HB7.out.1) z6 HQ7.out
            rw [all_bad r] at hac
            have hst := (show Pcs s r (a ++ d) true got 40 from by rw [HRK.out]; exact HR.out.pc).more
            simp only at hac
            have HST := Aside0.mk hst
            clear hst
            go_wp2_with fail
            refine hac.mono ?_
            rintro e w8 ⟨v8, rfl, k8, q8, g8⟩
            have HB8 := Aside0.mk (show Below w.heap.size w w8 ∧ w6.heap.size ≤ w8.heap.size from ⟨below_grown HB7.out.1 g8 hQ, Nat.le_trans HB7.out.2 g8.size⟩)
            have HQ8 := Aside0.mk q8
            have HP8 := Aside0.mk (Blk.grown HP7.out g8 (fun e => hpq (by cases e; rfl)))
            have HG8 := Aside0.mk (Kd.R_grown HG7.out g8 (fun k hk e => by cases e; omega))
            have HW8 := Aside0.mk (Kd.R_grown HW7.out g8 (fun k hk e => by cases e; omega))
            obtain ⟨A8, c8, rfl, hc8, d8⟩ := Kd.R_reads k8
            have D8' := Aside0.mk d8
            clear q8 g8 k8 d8 hac hc8
            simp only [List.length_nil] at D8' ⊢
            have hglen : lo + 0 ≤ 100000000 := by have := HLO.out; have := HR.out.gl; have := HL.out; omega
            have HGL := Aside0.mk hglen
            clear hglen
            go_wp2_with (first | ((with_reducible refine gate_builtin (b := .append) (xs := #[.tmp 80, .tmp 81]) rfl ?_); at_builtin; refine append_br w8 w6.heap.size rfl (.tmp 80) (.tmp 81) rfl _ got [] A8 0 c8 rfl rfl HG8.out D8'.out HB8.out.2 (by have := HLO.out; have := HGL.out; omega) ?_; intro v9 w9 hR9 hB9; have HR9 := Aside0.mk hR9; have HB9 := Aside0.mk hB9; clear hR9 hB9))
            rw [← HD.out]
            go_roundg (L + 2 - (i + 1))
            case measure => omega
            case rel =>
              refine ⟨i + 1, r, d, true, got ++ [], 40, by go_num, by go_num, by go_num, by omega, ⟨⟨HST.out, by omega, ?_, .inr (fun hb => by cases hb), ?_, ?_⟩⟩, HR9, ⟨?_⟩, ⟨?_⟩, ⟨?_⟩, ⟨?_⟩⟩
              · intro _; rw [HD.out]; exact HEX.out
              · have := HLO.out; have := HR.out.gl
                rw [List.append_nil]
                omega
              · have := HCK.out
                omega
              · exact (HB9.out.block q z2).trans HQ8.out
              · exact (HB9.out.block p z1).trans HP8.out
              · exact Kd.R_step HW8.out (fun k hk _ => HB9.out.block k hk.2)
              · exact ⟨HB8.out.1.trans (HB9.out.mono hB0), Nat.le_trans HB8.out.2 HB9.out.size⟩
      · have hi1 : i = L + 1 := by omega
        have hrest := HR.out.fin hi1
        subst hrest
        obtain ⟨e1, e2, e3⟩ := HR.out.pc.last (by rcases HR.out.ag with h | h; omega; exact h)
        have hgl := HR.out.gl
        have HW2 := HW.out
        rw [e1] at HW2
        obtain ⟨hmw, hc6, hcw⟩ := Kd.R_reads' HW2
        obtain ⟨hlo, hco, hcg⟩ := Kd.R_reads' HGo.out
        have HMWG : Aside0 (mw = got.length) := ⟨hmw⟩
        have HLOG : Aside0 (lo = got.length) := ⟨hlo⟩
        have DG := Aside0.mk hcg
        have LG := Aside0.mk (show got.length ≤ co by omega)
        have DW := Aside0.mk hcw
        have LW := Aside0.mk (show got.length ≤ c6 by omega)
        have hgl2 : got.length ≤ 100000000 := by have := HL.out; omega
        clear HW2 hmw hc6 hcw hlo hco hcg
        by_cases h5 : i ≤ n
        · have hz1 : (i : Int) ≤ (n : Int) := by omega
          have hz2 : ¬ (i : Int) ≤ 60 := by have := HL.out; omega
          rw [e2]
          go_wp2_with fail
          rw [HLOG.out, HMWG.out]
          refine (texts_calls got got (by omega) Ao co A6 c6 wr DG.out LG.out DW.out LW.out).mono ?_
          rintro e w7 ⟨rfl, b7⟩
          have B7 := Aside0.mk (HB.out.1.trans (b7.mono HB.out.1.size))
          have P7 := Aside0.mk (Blk.below HP.out b7)
          have Q7 := Aside0.mk (Blk.below HQ.out b7)
          rw [decide_eq_true rfl]
          clear b7
          rcases e3 with rfl | e3
          · go_wp2
            go_ret
            exact ⟨by simp, B7.out⟩
          · by_cases hg4 : g = 40
            · subst hg4
              go_wp2
              go_ret
              exact ⟨by simp, B7.out⟩
            · have hgb : (g == 40) = false := by simpa using hg4
              have P7' : Aside0 (Par w7 p r (allB 4000 s false []).2.2.2) := ⟨by rw [← e3]; exact P7.out⟩
              clear P7 e3
              go_wp2_with fail
              refine (left_calls p r _ w7 P7'.out).mono ?_
              rintro e wx ⟨rfl, rfl⟩
              go_wp2_with fail
              refine (left_calls q r b _ Q7.out).mono ?_
              rintro e wx ⟨rfl, rfl⟩
              go_wp2
              go_ret
              exact ⟨by simp, B7.out⟩
        · have hz1 : ¬ (i : Int) ≤ (n : Int) := by omega
          rw [e2]
          go_wp2_with fail
          rw [HLOG.out, HMWG.out]
          refine (texts_calls got got (by omega) Ao co A6 c6 wr DG.out LG.out DW.out LW.out).mono ?_
          rintro e w7 ⟨rfl, b7⟩
          have B7 := Aside0.mk (HB.out.1.trans (b7.mono HB.out.1.size))
          have P7 := Aside0.mk (Blk.below HP.out b7)
          have Q7 := Aside0.mk (Blk.below HQ.out b7)
          rw [decide_eq_true rfl]
          clear b7
          rcases e3 with rfl | e3
          · go_wp2
            go_ret
            exact ⟨by simp, B7.out⟩
          · by_cases hg4 : g = 40
            · subst hg4
              go_wp2
              go_ret
              exact ⟨by simp, B7.out⟩
            · have hgb : (g == 40) = false := by simpa using hg4
              have P7' : Aside0 (Par w7 p r (allB 4000 s false []).2.2.2) := ⟨by rw [← e3]; exact P7.out⟩
              clear P7 e3
              go_wp2_with fail
              refine (left_calls p r _ w7 P7'.out).mono ?_
              rintro e wx ⟨rfl, rfl⟩
              go_wp2_with fail
              refine (left_calls q r b _ Q7.out).mono ?_
              rintro e wx ⟨rfl, rfl⟩
              go_wp2
              go_ret
              exact ⟨by simp, B7.out⟩
end Go.Proofs.YtjcbbmjmhfimcaaDoor.P
