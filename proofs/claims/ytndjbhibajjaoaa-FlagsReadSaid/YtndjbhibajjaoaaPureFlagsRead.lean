/- The flags of words, and the words of flags, are what the document says, at any words, flags: the pure part. Conditions: none. -/
import Derived.Test.YtndjbhibajjaoaaPx9
namespace Go.Proofs.Ytndjbhibajjaoaa.Pure
open Go.RowKit Go.Proofs.YtndjbhibajjaoaaW.PrintWords Go.Proofs.YtndjbhibajjaoaaW.PrintLast Go.Proofs.Ytndjbhibajjaoaa.P

theorem shown_t : paliolaw12_shown.f = some true := by decide +kernel
def cut10 (s : ByteArray) : ByteArray := s.extract 0 (min s.size 10)
def fewL (l : List ByteArray) : List ByteArray := (l.take 20).map cut10
theorem cut10_size (s : ByteArray) : (cut10 s).size ≤ 10 := by
  unfold cut10
  rw [ByteArray.size_extract]
  omega
theorem few_l0 (l : List ByteArray) : ∀ (d j k : Nat), j + d = min l.length 20 → d < k → paliolaw12_few.l0 k l ((l.take j).map cut10) (j : Int) = some (fewL l) := by
  intro d
  induction d with
  | zero =>
    intro j k hj hk
    obtain ⟨k, rfl⟩ : ∃ m, k = m + 1 := ⟨k - 1, by omega⟩
    have hfin : (l.take j).map cut10 = fewL l := by
      unfold fewL
      congr 1
      rw [List.take_eq_take_iff]
      omega
    simp only [paliolaw12_few.l0]
    by_cases h : (j : Int) < (l.length : Int)
    · rw [if_pos h, if_neg (by omega), hfin]
    · rw [if_neg h, hfin]
  | succ d ih =>
    intro j k hj hk
    obtain ⟨k, rfl⟩ : ∃ m, k = m + 1 := ⟨k - 1, by omega⟩
    have hlt : j < l.length := by omega
    have hn := ih (j + 1) k (by omega) (by omega)
    have hl : ((l.take j).map cut10).length ≤ 20 := by rw [List.length_map, List.length_take]; omega
    have hrd : rdOf ByteArray.empty l (j : Int) = l[j] := by
      rw [rdOf, Int.toNat_natCast, List.getD_eq_getElem?_getD, List.getElem?_eq_getElem hlt]
      rfl
    have ht : (l.take (j + 1)).map cut10 = (l.take j).map cut10 ++ [cut10 l[j]] := by
      rw [List.take_succ_eq_append_getElem hlt, List.map_append]
      rfl
    have hm : mn ((l[j]).size : Int) 10 = ((min (l[j]).size 10 : Nat) : Int) := by unfold mn; omega
    simp only [paliolaw12_few.l0]
    rw [if_pos (by omega), if_pos (by omega), if_pos (by omega), hrd, hm, if_pos (by omega), if_pos (by omega), if_pos (by omega), wr1 (by omega), Int.toNat_natCast]
    rw [ht] at hn
    exact hn
theorem few_f (l : List ByteArray) (k : Nat) (hk : 20 < k) : paliolaw12_few.f k l = some (fewL l) := by
  have := few_l0 l (min l.length 20) 0 k (by omega) (by omega)
  exact this
theorem texts_l0 (l : List ByteArray) (hl : l.length ≤ 1000) : ∀ (d j k : Nat), j + d = l.length → d < k → palioref04_Texts.l0 k l l (j : Int) = some true := by
  intro d
  induction d with
  | zero =>
    intro j k hj hk
    obtain ⟨k, rfl⟩ : ∃ m, k = m + 1 := ⟨k - 1, by omega⟩
    simp only [palioref04_Texts.l0]
    rw [if_neg (by omega)]
  | succ d ih =>
    intro j k hj hk
    obtain ⟨k, rfl⟩ : ∃ m, k = m + 1 := ⟨k - 1, by omega⟩
    have hn := ih (j + 1) k (by omega) (by omega)
    simp only [palioref04_Texts.l0]
    rw [if_pos (by omega), if_pos (by omega), if_pos (by omega), if_pos trivial, wr1 (by omega)]
    exact hn
theorem texts_f (l : List ByteArray) (hl : l.length ≤ 1000) (k : Nat) (hk : l.length < k) : palioref04_Texts.f k l l = some true := by
  unfold palioref04_Texts.f
  rw [if_pos rfl]
  exact texts_l0 l hl l.length 0 k (by omega) hk
/-! ### the two capitals agree on the six words -/
theorem wl_small : ∀ k : Fin 6, ∀ b ∈ wl k, b.toNat < 128 := by decide
theorem small_up (s : ByteArray) : ∀ (f pos : Nat), (∀ j (h : j < s.data.toList.length), pos ≤ j → (s.data.toList[j]).toNat < 128) → s.data.toList.length ≤ pos + f → upFrom s f pos = (s.data.toList.drop pos).map fun b => (cap b.toNat).toUInt8 := by
  intro f
  induction f with
  | zero =>
    intro pos _ hf
    rw [List.drop_of_length_le (by omega)]
    rfl
  | succ f ih =>
    intro pos hall hf
    have h2 : s.data.toList.length = s.size := rfl
    rw [upFrom]
    by_cases hp : pos < s.size
    · have hlt : pos < s.data.toList.length := by omega
      have hb := hall pos hlt (Nat.le_refl _)
      have hg : s[pos]'hp = s.data.toList[pos] := rfl
      have hd := decode_ascii s pos hp (by rw [hg]; exact hb)
      rw [if_pos hp, hd, List.drop_eq_getElem_cons hlt, List.map_cons, ih (pos + 1) (fun j h hj => hall j h (by omega)) (by omega)]
      unfold upOne
      rw [hd, if_pos (by rw [hg]; exact hb), hg]
      rfl
    · rw [if_neg hp, List.drop_of_length_le (by omega)]
      rfl
/-- All bytes are ASCII. -/
def Ascii (s : ByteArray) : Prop := ∀ j (h : j < s.data.toList.length), (s.data.toList[j]).toNat < 128
theorem up_rup (s : ByteArray) (h : Ascii s) : P.up s = rup s := by
  unfold P.up rup
  rw [small_up s s.size 0 (fun j hj _ => h j hj) (by have : s.data.toList.length = s.size := rfl; omega)]
  rfl
/-- A text that has a byte that is no ASCII keeps one in capitals, either way. -/
theorem big_rup (s : ByteArray) (j : Nat) (hj : j < s.data.toList.length) (hb : 128 ≤ (s.data.toList[j]).toNat) : ∃ b ∈ rup s, 128 ≤ b.toNat := by
  refine ⟨(cap (s.data.toList[j]).toNat).toUInt8, List.mem_map.mpr ⟨s.data.toList[j], List.getElem_mem hj, rfl⟩, ?_⟩
  have hlt256 : (s.data.toList[j]).toNat < 256 := (s.data.toList[j]).toNat_lt
  unfold cap
  rw [if_neg (by omega), show ((s.data.toList[j]).toNat).toUInt8 = s.data.toList[j] by simp]
  exact hb
theorem big_up (s : ByteArray) : ∀ (f pos j : Nat) (hj : j < s.data.toList.length), pos ≤ j → 128 ≤ (s.data.toList[j]).toNat → s.data.toList.length ≤ pos + f → ∃ b ∈ upFrom s f pos, 128 ≤ b.toNat := by
  intro f
  induction f with
  | zero => intro pos j hj h1 _ h2; omega
  | succ f ih =>
    intro pos j hj h1 hb h2
    have h3 : s.data.toList.length = s.size := rfl
    have hp : pos < s.size := by omega
    have hlt : pos < s.data.toList.length := by omega
    rw [upFrom, if_pos hp]
    have hg : s[pos]'hp = s.data.toList[pos] := rfl
    by_cases ha : (s.data.toList[pos]).toNat < 128
    · have hd := decode_ascii s pos hp (by rw [hg]; exact ha)
      have hne : pos ≠ j := by
        rintro rfl
        omega
      obtain ⟨b, hm, hb2⟩ := ih (pos + 1) j hj (by omega) hb (by omega)
      refine ⟨b, List.mem_append.mpr (.inr ?_), hb2⟩
      rw [hd]
      exact hm
    · have hh := (decode_high s pos hp (by rw [hg]; omega)).1
      refine ⟨s.data.toList[pos], List.mem_append.mpr (.inl ?_), by omega⟩
      unfold upOne
      rw [if_neg (by omega), List.getElem?_eq_getElem hlt]
      simp
theorem kix_rix (s : ByteArray) : kix s = rix s := by
  unfold kix rix
  congr 1
  funext k
  by_cases hall : Ascii s
  · rw [up_rup s hall]
  · obtain ⟨j, hj⟩ := Classical.not_forall.mp (show ¬ ∀ j, ∀ (h : j < s.data.toList.length), (s.data.toList[j]).toNat < 128 from hall)
    obtain ⟨hlt, hb⟩ := Classical.not_forall.mp hj
    clear hj
    obtain ⟨b1, hm1, hb1⟩ := big_rup s j hlt (by omega)
    obtain ⟨b2, hm2, hb2⟩ := big_up s s.size 0 j hlt (Nat.zero_le _) (by omega) (by have : s.data.toList.length = s.size := rfl; omega)
    have n1 : rup s ≠ wl k := fun e => by have := wl_small k b1 (e ▸ hm1); omega
    have n2 : P.up s ≠ wl k := fun e => by have := wl_small k b2 (e ▸ hm2); omega
    simp [n1, n2]
theorem knw_rnw : ∀ l : List ByteArray, knw l = rnw l
  | [] => rfl
  | s :: r => by
    rw [knw, rnw, kix_rix, knw_rnw r]
    cases rix s <;> rfl
theorem right_same : ∀ a b c d e f : Bool, flags_Right.f a b c d e f = palioref12_Right.f a b c d e f := by decide
theorem read_same (l : List ByteArray) : flags_Read.f l = palioref12_Read.f l := by
  unfold flags_Read.f palioref12_Read.f
  rw [knw_rnw, right_same]
theorem right_some : ∀ a b c d e f : Bool, ∃ ok, flags_Right.f a b c d e f = some ok := fun _ _ _ _ _ _ => ⟨_, rfl⟩
theorem write_same : ∀ a b c d e f : Bool, palioref12_Write.f 30 a b c d e f = some (outW (flN a b c d e f) 6) := by decide +kernel
theorem read_some (l : List ByteArray) (h1 : l.length ≤ 1000) (h2 : ∀ s ∈ l, s.size ≤ 1000) : ∃ x, flags_Read.f l = some x := by
  unfold flags_Read.f
  rw [if_pos ⟨h1, h2⟩]
  obtain ⟨ok, hok⟩ := right_some (decide ((0 : Fin 6) ∈ knw l)) (decide ((1 : Fin 6) ∈ knw l)) (decide ((2 : Fin 6) ∈ knw l)) (decide ((3 : Fin 6) ∈ knw l)) (decide ((4 : Fin 6) ∈ knw l)) (decide ((5 : Fin 6) ∈ knw l))
  rw [hok]
  exact ⟨_, rfl⟩
theorem FlagsRead : ∀ (l0 : List ByteArray) (a1_0 : Bool) (a1_1 : Bool) (a1_2 : Bool) (a1_3 : Bool) (a1_4 : Bool) (a1_5 : Bool), (l0.length ≤ maxLen ∧ ∀ x ∈ l0, x.size ≤ maxLen) → ∃ k, paliolaw12_FlagsRead.f k l0 a1_0 a1_1 a1_2 a1_3 a1_4 a1_5 = some true := by
  intro l a b c d e f _
  have hlen : (fewL l).length ≤ 1000 := by
    unfold fewL
    rw [List.length_map, List.length_take]
    omega
  have hsz : ∀ s ∈ fewL l, s.size ≤ 1000 := by
    intro s hs
    unfold fewL at hs
    obtain ⟨t, _, rfl⟩ := List.mem_map.mp hs
    have := cut10_size t
    omega
  obtain ⟨x, hx⟩ := read_some _ hlen hsz
  have hw := outW_len (flN a b c d e f) 6
  refine ⟨30, ?_⟩
  unfold paliolaw12_FlagsRead.f
  rw [shown_t, few_f l 30 (by omega)]
  simp only [Option.bind_some]
  rw [← read_same, hx]
  simp only [Option.bind_some]
  rw [show flags_Write.f a b c d e f = some (outW (flN a b c d e f) 6) from rfl, write_same]
  simp only [Option.bind_some]
  rw [texts_f _ (by omega) 30 (by omega)]
  simp
end Go.Proofs.Ytndjbhibajjaoaa.Pure
