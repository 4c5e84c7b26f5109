/- The law ParseInline: a call of it answers true. Conditions: that the package's variables lie as the program lays them. -/
import Derived.Test.YtjcbbmjmhfimcaaDoorPK9
import Derived.Test.YtjcbbmjmhfimcaaDoorPureInline
namespace Go.Proofs.YtjcbbmjmhfimcaaDoor.P
open Go.RowKit Go.Lib Go.Proofs.YtjcbbmjmhfimcaaDoorW.PrintWords Go.Proofs.YtjcbbmjmhfimcaaDoorW.PrintLast Go.Proofs.YtjcbbmjmhfimcaaDoorW.PrintMore
attribute [local go_sem] Oper.semAt_some

/-- The plain letters of a text, ten at most. -/
def wordOf (x : ByteArray) : List UInt8 := (x.data.toList.filter okc).take 10
theorem wordOf_ok (x : ByteArray) : ∀ b ∈ wordOf x, okc b = true := fun _ hb => (List.mem_filter.1 (List.mem_of_mem_take hb)).2
theorem wordOf_len (x : ByteArray) : (wordOf x).length ≤ 10 := by unfold wordOf; rw [List.length_take]; omega
theorem word_end (x : ByteArray) (k : Nat) (hk : k = x.size ∨ ((x.data.toList.take k).filter okc).length = 10) (hl : ((x.data.toList.take k).filter okc).length ≤ 10) : (x.data.toList.take k).filter okc = wordOf x := by
  have hsl := size_eq x
  unfold wordOf
  rcases hk with rfl | hk
  · rw [List.take_of_length_le (by omega)] at hl ⊢
    rw [List.take_of_length_le hl]
  · have : x.data.toList.filter okc = (x.data.toList.take k).filter okc ++ (x.data.toList.drop k).filter okc := by
      rw [← List.filter_append, List.take_append_drop]
    rw [this, ← hk, List.take_left]
theorem word_step (x : ByteArray) (k : Nat) (hk : k < x.size) : (x.data.toList.take (k + 1)).filter okc = (x.data.toList.take k).filter okc ++ (if okc (x.data.toList[k]'(by rw [← size_eq]; exact hk)) = true then [x.data.toList[k]'(by rw [← size_eq]; exact hk)] else []) := by
  rw [List.take_succ_eq_append_getElem (by rw [← size_eq]; exact hk), List.filter_append]
  congr 1
  by_cases h : okc (x.data.toList[k]'(by rw [← size_eq]; exact hk)) = true
  · rw [if_pos h, List.filter_cons_of_pos h]
    rfl
  · rw [if_neg h, List.filter_cons_of_neg h]
    rfl
theorem one_ext (x : ByteArray) (k : Nat) (hk : k < x.size) : x.extract k (k + 1) = mk [x.data.toList[k]'(by rw [← size_eq]; exact hk)] := by
  rw [extract_eq, show k + 1 - k = 1 by omega, List.drop_eq_getElem_cons (by rw [← size_eq]; exact hk)]
  rfl
theorem some_snoc (ws : List (List UInt8)) (w : List UInt8) : some_ (ws ++ [w]) = if w = [] then some_ ws else some_ ws ++ [w] := by
  unfold some_
  rw [List.filter_append]
  by_cases h : w = []
  · simp [h]
  · simp [h]
theorem lineOf_snoc (tabs : Bool) (ws : List (List UInt8)) (w : List UInt8) : lineOf tabs (ws ++ [w]) = lineOf tabs ws ++ (if tabs = true then 9 :: 32 :: w else w ++ [32]) := by
  unfold lineOf
  rw [List.flatMap_append]
  simp
theorem byte_cases (b : UInt8) (c : Int) (hc : (b.toNat : Int) = c) : (okc b = true ∧ ((48 ≤ c ∧ c ≤ 57) ∨ (48 ≤ c ∧ ¬ c ≤ 57 ∧ 97 ≤ c ∧ c ≤ 122))) ∨ (okc b = false ∧ ((¬ 48 ≤ c ∧ ¬ 97 ≤ c) ∨ (48 ≤ c ∧ ¬ c ≤ 57 ∧ ¬ 97 ≤ c) ∨ (48 ≤ c ∧ ¬ c ≤ 57 ∧ 97 ≤ c ∧ ¬ c ≤ 122))) := by
  cases h : okc b with
  | true =>
    left
    refine ⟨rfl, ?_⟩
    unfold okc at h
    simp only [Bool.or_eq_true, Bool.and_eq_true, decide_eq_true_eq] at h
    omega
  | false =>
    right
    refine ⟨rfl, ?_⟩
    unfold okc at h
    simp only [Bool.or_eq_false_iff, Bool.and_eq_false_iff, decide_eq_false_iff_not] at h
    omega
set_option maxHeartbeats 16000000 in
set_option maxRecDepth 100000 in
theorem inline_law (l : List ByteArray) (A : Option Addr) (c : Nat) (cr tabs : Bool) (w : World) (hG : G w) (hC : Kd.C Kd.string w A l.length l) (hl : l.length ≤ maxLen) (hgood : ∀ x ∈ l, x.size ≤ 9223372036854775807) :
    Calls Tryd.prog 3 #[.slice A l.length c, .bool cr, .bool tabs] w fun e w' => e = .returned (.bool true) ∧ Below w.heap.size w w' := by
  have HG := Aside0.mk hG
  have HC := Aside0.mk hC
  have HX := Aside0.mk hgood
  clear hG hC hgood
  obtain ⟨n, hn⟩ : ∃ n, n = l.length := ⟨_, rfl⟩
  have HN := Aside0.mk hn
  rw [← hn] at hl ⊢
  clear hn
  unfold maxLen at hl
  go_enter Tryd.func3, Tryd.ntmps3
  go_wp2_with fail
  refine (shown_calls w HG.out).mono ?_
  rintro e w1 ⟨rfl, b1⟩
  have B1 := Aside0.mk b1
  clear b1
  go_wp2
  go_loopg [8, 9, 10] 61 (fun gg v8 v9 v10 wr => ∃ (i : Nat) (L : List UInt8), v8 = .string (mk L) ∧ v10 = .int .i64 i ∧ i ≤ 60 ∧ i ≤ n ∧ 61 - i ≤ gg ∧ Aside0 (L = lineOf tabs ((l.take i).map wordOf) ∧ L.length ≤ 12 * i) ∧ Aside0 (Kd.R Kd.string 9 wr w.heap.size (fun k => w.heap.size ≤ k) v9 ((some_ ((l.take i).map wordOf)).map mk)) ∧ Aside0 (Below w.heap.size w wr))
  case atStart => exact ⟨0, [], rfl, rfl, by omega, by omega, by omega, ⟨rfl, by simp⟩, ⟨Kd.R_nil _ _ _ _ _⟩, B1⟩
  case round =>
    obtain ⟨i, L, rfl, rfl, hi, hin0, hg, HL, HW, HB⟩ := hrel
    have hS := Kd.R_slice HW.out
    obtain ⟨lo, hlo⟩ : ∃ m, m = ((some_ ((l.take i).map wordOf)).map mk).length := ⟨_, rfl⟩
    rw [← hlo] at hS
    obtain ⟨Ao, co, rfl⟩ := hS
    have HLO := Aside0.mk hlo
    clear hlo
    have hLz : ((mk L).size : Int) ≤ 720 := by rw [mk_size]; have := HL.out.2; omega
    by_cases hin : i < n ∧ i < 60
    · have hi1 : (i : Int) < (n : Int) := by omega
      have hi2 : (i : Int) < 60 := by omega
      have hil : i < l.length := by have := HN.out; omega
      have hcl := Kd.C_below HC.out HB.out
      rw [← HN.out] at hcl
      obtain ⟨ad, e, hx⟩ := Kd.at_string hcl (i : Int) (by omega) hi1
      cases e
      rw [Int.toNat_natCast] at hx
      have htk : l.take (i + 1) = l.take i ++ [rdOf ByteArray.empty l (i : Int)] := by
        rw [List.take_succ_eq_append_getElem hil, rd_get hil]
      have hxm : rdOf ByteArray.empty l (i : Int) ∈ l := rd_mem hil
      generalize rdOf ByteArray.empty l (i : Int) = x at hx htk hxm
      have hxs := HX.out x hxm
      have hxz : (x.size : Int) ≤ 9223372036854775807 := by omega
      have HTK := Aside0.mk htk
      clear htk hxm hcl
      have hlo60 : lo ≤ 60 := by
        have := HLO.out
        rw [List.length_map] at this
        have h1 : (some_ ((l.take i).map wordOf)).length ≤ ((l.take i).map wordOf).length := List.length_filter_le _ _
        rw [List.length_map, List.length_take] at h1
        omega
      go_wp2
      go_loopg [11, 12] x.size (fun gg v11 v12 wr2 => ∃ (k : Nat), v11 = .string (mk ((x.data.toList.take k).filter okc)) ∧ v12 = .int .i64 k ∧ k ≤ x.size ∧ x.size - k ≤ gg ∧ Aside0 (((x.data.toList.take k).filter okc).length ≤ 10) ∧ wr2 = wr)
      case atStart => exact ⟨0, rfl, rfl, by omega, by omega, ⟨by simp⟩, rfl⟩
      case round =>
        obtain ⟨k, rfl, rfl, hk, hg2, HW10, rfl⟩ := hrel
        have hw10 := HW10.out
        have hwz0 : (mk ((x.data.toList.take k).filter okc)).size = ((x.data.toList.take k).filter okc).length := mk_size _
        by_cases hkx : k < x.size
        · have hkz : (k : Int) < (x.size : Int) := by omega
          by_cases hw : ((x.data.toList.take k).filter okc).length < 10
          · have hwz : ((mk ((x.data.toList.take k).filter okc)).size : Int) < 10 := by omega
            have hbt : ∀ h, ((x[k]'h).toNat : Int) = bt x (k : Int) := fun h => bt_at x (k : Int) h
            have hkl : k < x.data.toList.length := by rw [← size_eq]; exact hkx
            have HWS := Aside0.mk (word_step x k hkx)
            have HEX := Aside0.mk (one_ext x k hkx)
            have hbc := byte_cases (x.data.toList[k]'hkl) (bt x (k : Int)) (hbt hkx)
            generalize (x.data.toList.take k).filter okc = wk at hwz hw hw10 HWS hwz0
            generalize bt x (k : Int) = cc at hbt hbc
            rcases hbc with ⟨hok, ⟨h1, h2⟩ | ⟨h1, h2, h3, h4⟩⟩ | ⟨hok, ⟨h1, h3⟩ | ⟨h1, h2, h3⟩ | ⟨h1, h2, h3, h4⟩⟩
            · have HOK := Aside0.mk hok
              clear hok hwz0
              go_wp2
              go_roundg (x.size - (k + 1))
              case measure => omega
              case rel => exact ⟨k + 1, by rw [HWS.out, if_pos HOK.out, ← mk_append, HEX.out], by go_num, by omega, by omega, ⟨by rw [HWS.out, if_pos HOK.out, List.length_append, List.length_singleton]; omega⟩, rfl⟩
            · have HOK := Aside0.mk hok
              clear hok hwz0
              go_wp2
              go_roundg (x.size - (k + 1))
              case measure => omega
              case rel => exact ⟨k + 1, by rw [HWS.out, if_pos HOK.out, ← mk_append, HEX.out], by go_num, by omega, by omega, ⟨by rw [HWS.out, if_pos HOK.out, List.length_append, List.length_singleton]; omega⟩, rfl⟩
            · have HOK := Aside0.mk hok
              clear hok hwz0
              go_wp2
              go_roundg (x.size - (k + 1))
              case measure => omega
              case rel => exact ⟨k + 1, by rw [HWS.out, if_neg (by rw [HOK.out]; simp), List.append_nil], by go_num, by omega, by omega, ⟨by rw [HWS.out, if_neg (by rw [HOK.out]; simp), List.append_nil]; omega⟩, rfl⟩
            · have HOK := Aside0.mk hok
              clear hok hwz0
              go_wp2
              go_roundg (x.size - (k + 1))
              case measure => omega
              case rel => exact ⟨k + 1, by rw [HWS.out, if_neg (by rw [HOK.out]; simp), List.append_nil], by go_num, by omega, by omega, ⟨by rw [HWS.out, if_neg (by rw [HOK.out]; simp), List.append_nil]; omega⟩, rfl⟩
            · have HOK := Aside0.mk hok
              clear hok hwz0
              go_wp2
              go_roundg (x.size - (k + 1))
              case measure => omega
              case rel => exact ⟨k + 1, by rw [HWS.out, if_neg (by rw [HOK.out]; simp), List.append_nil], by go_num, by omega, by omega, ⟨by rw [HWS.out, if_neg (by rw [HOK.out]; simp), List.append_nil]; omega⟩, rfl⟩
          · have hwz : ¬ ((mk ((x.data.toList.take k).filter okc)).size : Int) < 10 := by omega
            have HEND := Aside0.mk (show k = x.size ∨ ((x.data.toList.take k).filter okc).length = 10 from .inr (by omega))
            go_upto_region 14 with fail
            have hwe := word_end x k HEND.out hw10
            have HWE := Aside0.mk hwe
            have hwl := wordOf_len x
            rw [hwe]
            have hsn := some_snoc ((l.take i).map wordOf) (wordOf x)
            have hln := lineOf_snoc tabs ((l.take i).map wordOf) (wordOf x)
            have hmp : (l.take (i + 1)).map wordOf = (l.take i).map wordOf ++ [wordOf x] := by rw [HTK.out, List.map_append]; rfl
            have HSN := Aside0.mk hsn
            have HLN := Aside0.mk hln
            have HMP := Aside0.mk hmp
            clear hwe hsn hln hmp
            generalize hWd : wordOf x = wd at hwl HSN HLN HMP ⊢
            clear hWd
            have hwz : ((mk wd).size : Int) ≤ 10 := by rw [mk_size]; omega
            by_cases hwn : wd = []
            · subst hwn
              have hS2 := HSN.out
              rw [if_pos rfl] at hS2
              have HS2 := Aside0.mk hS2
              rw [show mk ([] : List UInt8) = ⟨#[]⟩ from rfl]
              cases tabs with
              | true =>
                go_wp2
                go_roundg (61 - (i + 1))
                case measure => omega
                case rel =>
                  refine ⟨i + 1, L ++ [9, 32], ?_, by go_num, by omega, by omega, by omega, ⟨?_, by rw [List.length_append]; have := HL.out.2; simp; omega⟩, ⟨?_⟩, HB⟩
                  · show Value.string (mk L ++ mk [9, 32] ++ mk []) = _
                    rw [mk_append, mk_append, List.append_nil]
                  · rw [HMP.out, HLN.out, ← HL.out.1]; simp
                  · rw [HMP.out, HS2.out]; exact HW.out
              | false =>
                go_wp2
                go_roundg (61 - (i + 1))
                case measure => omega
                case rel =>
                  refine ⟨i + 1, L ++ [32], ?_, by go_num, by omega, by omega, by omega, ⟨?_, by rw [List.length_append]; have := HL.out.2; simp; omega⟩, ⟨?_⟩, HB⟩
                  · show Value.string (mk L ++ mk [] ++ mk [32]) = _
                    rw [mk_append, mk_append, List.append_nil]
                  · rw [HMP.out, HLN.out, ← HL.out.1]; simp
                  · rw [HMP.out, HS2.out]; exact HW.out
            · have hS2 := HSN.out
              rw [if_neg hwn] at hS2
              have HS2 := Aside0.mk hS2
              obtain ⟨hne, hne2⟩ := ne_list (s := mk wd) (by rw [mk_size]; cases wd with
                | nil => exact absurd rfl hwn
                | cons a t => simp)
              cases tabs with
              | true =>
                go_wp2_with (first | ((with_reducible refine gate_builtin (b := .append) (xs := #[.tmp 74, .tmp 76]) rfl ?_); at_builtin; refine append_b1 wr w.heap.size rfl (.tmp 74) (.tmp 76) rfl _ _ (mk wd) rfl rfl HW.out HB.out.size (by rw [← HLO.out]; omega) ?_; intro v5 w5 hR5 hB5 _; have HR5 := Aside0.mk hR5; have HB5 := Aside0.mk hB5; clear hR5 hB5))
                go_roundg (61 - (i + 1))
                case measure => omega
                case rel =>
                  refine ⟨i + 1, L ++ 9 :: 32 :: wd, ?_, by go_num, by omega, by omega, by omega, ⟨?_, by rw [List.length_append]; have := HL.out.2; simp; omega⟩, ⟨?_⟩, ⟨HB.out.trans HB5.out⟩⟩
                  · rw [show L ++ 9 :: 32 :: wd = (L ++ [9, 32]) ++ wd by simp, ← mk_append, ← mk_append]; rfl
                  · rw [HMP.out, HLN.out, ← HL.out.1]; simp
                  · rw [HMP.out, HS2.out, List.map_append]; exact HR5.out
              | false =>
                go_wp2_with (first | ((with_reducible refine gate_builtin (b := .append) (xs := #[.tmp 74, .tmp 76]) rfl ?_); at_builtin; refine append_b1 wr w.heap.size rfl (.tmp 74) (.tmp 76) rfl _ _ (mk wd) rfl rfl HW.out HB.out.size (by rw [← HLO.out]; omega) ?_; intro v5 w5 hR5 hB5 _; have HR5 := Aside0.mk hR5; have HB5 := Aside0.mk hB5; clear hR5 hB5))
                go_roundg (61 - (i + 1))
                case measure => omega
                case rel =>
                  refine ⟨i + 1, L ++ (wd ++ [32]), ?_, by go_num, by omega, by omega, by omega, ⟨?_, by rw [List.length_append]; have := HL.out.2; simp; omega⟩, ⟨?_⟩, ⟨HB.out.trans HB5.out⟩⟩
                  · rw [show L ++ (wd ++ [32]) = (L ++ wd) ++ [32] by simp, ← mk_append, ← mk_append]; rfl
                  · rw [HMP.out, HLN.out, ← HL.out.1]; simp
                  · rw [HMP.out, HS2.out, List.map_append]; exact HR5.out
        · have hkz : ¬ (k : Int) < (x.size : Int) := by omega
          have HEND := Aside0.mk (show k = x.size ∨ ((x.data.toList.take k).filter okc).length = 10 from .inl (by omega))
          go_upto_region 14 with fail
          have hwe := word_end x k HEND.out hw10
          have HWE := Aside0.mk hwe
          have hwl := wordOf_len x
          rw [hwe]
          have hsn := some_snoc ((l.take i).map wordOf) (wordOf x)
          have hln := lineOf_snoc tabs ((l.take i).map wordOf) (wordOf x)
          have hmp : (l.take (i + 1)).map wordOf = (l.take i).map wordOf ++ [wordOf x] := by rw [HTK.out, List.map_append]; rfl
          have HSN := Aside0.mk hsn
          have HLN := Aside0.mk hln
          have HMP := Aside0.mk hmp
          clear hwe hsn hln hmp
          generalize hWd : wordOf x = wd at hwl HSN HLN HMP ⊢
          clear hWd
          have hwz : ((mk wd).size : Int) ≤ 10 := by rw [mk_size]; omega
          by_cases hwn : wd = []
          · subst hwn
            have hS2 := HSN.out
            rw [if_pos rfl] at hS2
            have HS2 := Aside0.mk hS2
            rw [show mk ([] : List UInt8) = ⟨#[]⟩ from rfl]
            cases tabs with
            | true =>
              go_wp2
              go_roundg (61 - (i + 1))
              case measure => omega
              case rel =>
                refine ⟨i + 1, L ++ [9, 32], ?_, by go_num, by omega, by omega, by omega, ⟨?_, by rw [List.length_append]; have := HL.out.2; simp; omega⟩, ⟨?_⟩, HB⟩
                · show Value.string (mk L ++ mk [9, 32] ++ mk []) = _
                  rw [mk_append, mk_append, List.append_nil]
                · rw [HMP.out, HLN.out, ← HL.out.1]; simp
                · rw [HMP.out, HS2.out]; exact HW.out
            | false =>
              go_wp2
              go_roundg (61 - (i + 1))
              case measure => omega
              case rel =>
                refine ⟨i + 1, L ++ [32], ?_, by go_num, by omega, by omega, by omega, ⟨?_, by rw [List.length_append]; have := HL.out.2; simp; omega⟩, ⟨?_⟩, HB⟩
                · show Value.string (mk L ++ mk [] ++ mk [32]) = _
                  rw [mk_append, mk_append, List.append_nil]
                · rw [HMP.out, HLN.out, ← HL.out.1]; simp
                · rw [HMP.out, HS2.out]; exact HW.out
          · have hS2 := HSN.out
            rw [if_neg hwn] at hS2
            have HS2 := Aside0.mk hS2
            obtain ⟨hne, hne2⟩ := ne_list (s := mk wd) (by rw [mk_size]; cases wd with
              | nil => exact absurd rfl hwn
              | cons a t => simp)
            cases tabs with
            | true =>
              go_wp2_with (first | ((with_reducible refine gate_builtin (b := .append) (xs := #[.tmp 74, .tmp 76]) rfl ?_); at_builtin; refine append_b1 wr w.heap.size rfl (.tmp 74) (.tmp 76) rfl _ _ (mk wd) rfl rfl HW.out HB.out.size (by rw [← HLO.out]; omega) ?_; intro v5 w5 hR5 hB5 _; have HR5 := Aside0.mk hR5; have HB5 := Aside0.mk hB5; clear hR5 hB5))
              go_roundg (61 - (i + 1))
              case measure => omega
              case rel =>
                refine ⟨i + 1, L ++ 9 :: 32 :: wd, ?_, by go_num, by omega, by omega, by omega, ⟨?_, by rw [List.length_append]; have := HL.out.2; simp; omega⟩, ⟨?_⟩, ⟨HB.out.trans HB5.out⟩⟩
                · rw [show L ++ 9 :: 32 :: wd = (L ++ [9, 32]) ++ wd by simp, ← mk_append, ← mk_append]; rfl
                · rw [HMP.out, HLN.out, ← HL.out.1]; simp
                · rw [HMP.out, HS2.out, List.map_append]; exact HR5.out
            | false =>
              go_wp2_with (first | ((with_reducible refine gate_builtin (b := .append) (xs := #[.tmp 74, .tmp 76]) rfl ?_); at_builtin; refine append_b1 wr w.heap.size rfl (.tmp 74) (.tmp 76) rfl _ _ (mk wd) rfl rfl HW.out HB.out.size (by rw [← HLO.out]; omega) ?_; intro v5 w5 hR5 hB5 _; have HR5 := Aside0.mk hR5; have HB5 := Aside0.mk hB5; clear hR5 hB5))
              go_roundg (61 - (i + 1))
              case measure => omega
              case rel =>
                refine ⟨i + 1, L ++ (wd ++ [32]), ?_, by go_num, by omega, by omega, by omega, ⟨?_, by rw [List.length_append]; have := HL.out.2; simp; omega⟩, ⟨?_⟩, ⟨HB.out.trans HB5.out⟩⟩
                · rw [show L ++ (wd ++ [32]) = (L ++ wd) ++ [32] by simp, ← mk_append, ← mk_append]; rfl
                · rw [HMP.out, HLN.out, ← HL.out.1]; simp
                · rw [HMP.out, HS2.out, List.map_append]; exact HR5.out
    · by_cases h5 : i < n
      · have hi1 : (i : Int) < (n : Int) := by omega
        have hi2 : ¬ (i : Int) < 60 := by omega
        have hend := HL.out.1
        have hlen2 : ((l.take i).map wordOf).length ≤ 60 := by rw [List.length_map, List.length_take]; omega
        have hsp := fun cr => split_line tabs cr ((l.take i).map wordOf) (fun w hw => by
          obtain ⟨y, _, rfl⟩ := List.mem_map.1 hw
          exact wordOf_ok y) (fun w hw => by
          obtain ⟨y, _, rfl⟩ := List.mem_map.1 hw
          exact wordOf_len y) hlen2
        rw [← hend] at hsp
        have hsl : (some_ ((l.take i).map wordOf)).length ≤ 60 := Nat.le_trans (List.length_filter_le _ _) hlen2
        generalize hwant : (some_ ((l.take i).map wordOf)).map mk = want at hsp HW HLO
        have hwl : want.length ≤ 60 := by rw [← hwant, List.length_map]; exact hsl
        have HSP := Aside0.mk hsp
        clear hend hlen2 hsp hsl hwant
        cases cr with
        | true =>
          go_wp2_with fail
          have hcall := split_calls (mk L ++ ⟨#[13]⟩ ++ ⟨#[10, 114, 101, 115, 116]⟩) (by rw [ByteArray.size_append, ByteArray.size_append]; have h1 : (⟨#[13]⟩ : ByteArray).size = 1 := rfl; have h2 : (⟨#[10, 114, 101, 115, 116]⟩ : ByteArray).size = 5 := rfl; omega) wr (HG.out.below HB.out)
          unfold SplitEnd at hcall
          have hs9 : splitB (mk L ++ (⟨#[13]⟩ : ByteArray) ++ ⟨#[10, 114, 101, 115, 116]⟩) = (want, 0, mk restL) := by
            rw [← HSP.out true]
            congr 1
          rw [hs9] at hcall
          clear hs9
          refine hcall.mono ?_
          rintro e w3 ⟨v3, rfl, r3, b3⟩
          have HB3 := Aside0.mk (HB.out.trans (b3.mono HB.out.size))
          have HW3 := Aside0.mk (Kd.R_below HW.out b3)
          obtain ⟨A3, c3, rfl, l3, d3⟩ := Kd.R_reads r3
          have D3 := Aside0.mk d3
          have L3 := Aside0.mk l3
          obtain ⟨e1, e2, e3⟩ := Kd.R_reads' HW3.out
          have D4 := Aside0.mk e3
          have L4 : Aside0 (want.length ≤ co) := ⟨by omega⟩
          have HLO2 : Aside0 (lo = want.length) := ⟨e1⟩
          clear r3 b3 d3 l3 hcall e1 e2 e3
          have hrest : (mk restL).toList = [114, 101, 115, 116] := by rw [ByteArray.toList_eq]; rfl
          go_wp2_with fail
          rw [HLO2.out]
          refine (texts_calls want want (by omega) A3 c3 Ao co w3 D3.out L3.out D4.out L4.out).mono ?_
          rintro e w4 ⟨rfl, b4⟩
          have HB4 := Aside0.mk (HB3.out.trans (b4.mono HB3.out.size))
          rw [decide_eq_true rfl]
          clear b4
          go_wp2
          go_ret
          exact ⟨by simp, HB4.out⟩
        | false =>
          go_wp2_with fail
          have hcall := split_calls (mk L ++ ⟨#[10, 114, 101, 115, 116]⟩) (by rw [ByteArray.size_append]; have h2 : (⟨#[10, 114, 101, 115, 116]⟩ : ByteArray).size = 5 := rfl; omega) wr (HG.out.below HB.out)
          unfold SplitEnd at hcall
          have hs9 : splitB (mk L ++ (⟨#[10, 114, 101, 115, 116]⟩ : ByteArray)) = (want, 0, mk restL) := by
            rw [← HSP.out false]
            congr 1
            rw [if_neg (by decide), List.append_nil, ← mk_append]; rfl
          rw [hs9] at hcall
          clear hs9
          refine hcall.mono ?_
          rintro e w3 ⟨v3, rfl, r3, b3⟩
          have HB3 := Aside0.mk (HB.out.trans (b3.mono HB.out.size))
          have HW3 := Aside0.mk (Kd.R_below HW.out b3)
          obtain ⟨A3, c3, rfl, l3, d3⟩ := Kd.R_reads r3
          have D3 := Aside0.mk d3
          have L3 := Aside0.mk l3
          obtain ⟨e1, e2, e3⟩ := Kd.R_reads' HW3.out
          have D4 := Aside0.mk e3
          have L4 : Aside0 (want.length ≤ co) := ⟨by omega⟩
          have HLO2 : Aside0 (lo = want.length) := ⟨e1⟩
          clear r3 b3 d3 l3 hcall e1 e2 e3
          have hrest : (mk restL).toList = [114, 101, 115, 116] := by rw [ByteArray.toList_eq]; rfl
          go_wp2_with fail
          rw [HLO2.out]
          refine (texts_calls want want (by omega) A3 c3 Ao co w3 D3.out L3.out D4.out L4.out).mono ?_
          rintro e w4 ⟨rfl, b4⟩
          have HB4 := Aside0.mk (HB3.out.trans (b4.mono HB3.out.size))
          rw [decide_eq_true rfl]
          clear b4
          go_wp2
          go_ret
          exact ⟨by simp, HB4.out⟩
      · have hi1 : ¬ (i : Int) < (n : Int) := by omega
        have hend := HL.out.1
        have hlen2 : ((l.take i).map wordOf).length ≤ 60 := by rw [List.length_map, List.length_take]; omega
        have hsp := fun cr => split_line tabs cr ((l.take i).map wordOf) (fun w hw => by
          obtain ⟨y, _, rfl⟩ := List.mem_map.1 hw
          exact wordOf_ok y) (fun w hw => by
          obtain ⟨y, _, rfl⟩ := List.mem_map.1 hw
          exact wordOf_len y) hlen2
        rw [← hend] at hsp
        have hsl : (some_ ((l.take i).map wordOf)).length ≤ 60 := Nat.le_trans (List.length_filter_le _ _) hlen2
        generalize hwant : (some_ ((l.take i).map wordOf)).map mk = want at hsp HW HLO
        have hwl : want.length ≤ 60 := by rw [← hwant, List.length_map]; exact hsl
        have HSP := Aside0.mk hsp
        clear hend hlen2 hsp hsl hwant
        cases cr with
        | true =>
          go_wp2_with fail
          have hcall := split_calls (mk L ++ ⟨#[13]⟩ ++ ⟨#[10, 114, 101, 115, 116]⟩) (by rw [ByteArray.size_append, ByteArray.size_append]; have h1 : (⟨#[13]⟩ : ByteArray).size = 1 := rfl; have h2 : (⟨#[10, 114, 101, 115, 116]⟩ : ByteArray).size = 5 := rfl; omega) wr (HG.out.below HB.out)
          unfold SplitEnd at hcall
          have hs9 : splitB (mk L ++ (⟨#[13]⟩ : ByteArray) ++ ⟨#[10, 114, 101, 115, 116]⟩) = (want, 0, mk restL) := by
            rw [← HSP.out true]
            congr 1
          rw [hs9] at hcall
          clear hs9
          refine hcall.mono ?_
          rintro e w3 ⟨v3, rfl, r3, b3⟩
          have HB3 := Aside0.mk (HB.out.trans (b3.mono HB.out.size))
          have HW3 := Aside0.mk (Kd.R_below HW.out b3)
          obtain ⟨A3, c3, rfl, l3, d3⟩ := Kd.R_reads r3
          have D3 := Aside0.mk d3
          have L3 := Aside0.mk l3
          obtain ⟨e1, e2, e3⟩ := Kd.R_reads' HW3.out
          have D4 := Aside0.mk e3
          have L4 : Aside0 (want.length ≤ co) := ⟨by omega⟩
          have HLO2 : Aside0 (lo = want.length) := ⟨e1⟩
          clear r3 b3 d3 l3 hcall e1 e2 e3
          have hrest : (mk restL).toList = [114, 101, 115, 116] := by rw [ByteArray.toList_eq]; rfl
          go_wp2_with fail
          rw [HLO2.out]
          refine (texts_calls want want (by omega) A3 c3 Ao co w3 D3.out L3.out D4.out L4.out).mono ?_
          rintro e w4 ⟨rfl, b4⟩
          have HB4 := Aside0.mk (HB3.out.trans (b4.mono HB3.out.size))
          rw [decide_eq_true rfl]
          clear b4
          go_wp2
          go_ret
          exact ⟨by simp, HB4.out⟩
        | false =>
          go_wp2_with fail
          have hcall := split_calls (mk L ++ ⟨#[10, 114, 101, 115, 116]⟩) (by rw [ByteArray.size_append]; have h2 : (⟨#[10, 114, 101, 115, 116]⟩ : ByteArray).size = 5 := rfl; omega) wr (HG.out.below HB.out)
          unfold SplitEnd at hcall
          have hs9 : splitB (mk L ++ (⟨#[10, 114, 101, 115, 116]⟩ : ByteArray)) = (want, 0, mk restL) := by
            rw [← HSP.out false]
            congr 1
            rw [if_neg (by decide), List.append_nil, ← mk_append]; rfl
          rw [hs9] at hcall
          clear hs9
          refine hcall.mono ?_
          rintro e w3 ⟨v3, rfl, r3, b3⟩
          have HB3 := Aside0.mk (HB.out.trans (b3.mono HB.out.size))
          have HW3 := Aside0.mk (Kd.R_below HW.out b3)
          obtain ⟨A3, c3, rfl, l3, d3⟩ := Kd.R_reads r3
          have D3 := Aside0.mk d3
          have L3 := Aside0.mk l3
          obtain ⟨e1, e2, e3⟩ := Kd.R_reads' HW3.out
          have D4 := Aside0.mk e3
          have L4 : Aside0 (want.length ≤ co) := ⟨by omega⟩
          have HLO2 : Aside0 (lo = want.length) := ⟨e1⟩
          clear r3 b3 d3 l3 hcall e1 e2 e3
          have hrest : (mk restL).toList = [114, 101, 115, 116] := by rw [ByteArray.toList_eq]; rfl
          go_wp2_with fail
          rw [HLO2.out]
          refine (texts_calls want want (by omega) A3 c3 Ao co w3 D3.out L3.out D4.out L4.out).mono ?_
          rintro e w4 ⟨rfl, b4⟩
          have HB4 := Aside0.mk (HB3.out.trans (b4.mono HB3.out.size))
          rw [decide_eq_true rfl]
          clear b4
          go_wp2
          go_ret
          exact ⟨by simp, HB4.out⟩
end Go.Proofs.YtjcbbmjmhfimcaaDoor.P
