/- The document's answer for digits and their numbers comes to what the program's does. Conditions: each theorem names its own. -/
import Derived.Test.YtnglofnelmojnaaDoorPx6
import Derived.Test.YtnglofnelmojnaaDoorPureDig
namespace Go.Proofs.YtnglofnelmojnaaDoor.P
open Go.RowKit Go.Lib Go.Proofs.YtnglofnelmojnaaDoorW.PrintWords Go.Proofs.YtnglofnelmojnaaDoorW.PrintLast Go.Proofs.YtnglofnelmojnaaDoorW.PrintMore

theorem parse_bd (s : ByteArray) (k f : Int) (h : ints_Parse.f s = some (k, f)) : -9223372036854775808 ≤ k ∧ k ≤ 9223372036854775807 := by
  have key : ∀ b rest, -9223372036854775808 ≤ (parseOf b rest).1 ∧ (parseOf b rest).1 ≤ 9223372036854775807 := by
    intro b rest
    unfold parseOf
    split
    · rename_i hd
      have hg := (digits_good _).1 hd
      rw [val_all _ hg]
      split
      · split
        · simp only; omega
        · simp only; omega
      · split
        · simp only; omega
        · simp only; omega
    · simp only; omega
  unfold ints_Parse.f at h
  split at h
  case isFalse => cases h
  injection h with h
  split at h
  · have := key true (s.extract 1 s.size)
    rw [h] at this
    exact this
  · have := key false s
    rw [h] at this
    exact this
theorem strOfNums_one (x : Int) : strOfNums [x] = ⟨#[UInt8.ofNat x.toNat]⟩ := by
  unfold strOfNums
  first | rfl | simp
theorem wrap64_in (x : Int) (h0 : -9223372036854775808 ≤ x) (h1 : x ≤ 9223372036854775807) : wrap64 x = x := by
  unfold wrap64
  omega
theorem app_list (a b : List UInt8) : (⟨a.toArray⟩ : ByteArray) ++ ⟨b.toArray⟩ = ⟨(a ++ b).toArray⟩ := by
  refine ByteArray.ext ?_
  rw [ByteArray.data_append]
  simp
theorem fmt_pos : ∀ (K u : Nat), 0 < K → u < 10 ^ K → u ≤ 9223372036854775807 → palioref01_Format.f K (u : Int) = some ⟨(decDigits u).toArray⟩
  | 0, _, h, _, _ => by omega
  | K + 1, u, _, hu, hb => by
    have hd : wrap64 (48 + Int.tmod (u : Int) 10) % 256 = ((48 + u % 10 : Nat) : Int) := by
      rw [Int.tmod_eq_emod_of_nonneg (by omega), wrap64_in _ (by omega) (by omega)]
      omega
    rw [palioref01_Format.f, if_neg (by omega), if_neg (by omega), hd]
    simp only [Option.bind_some]
    rw [strOfNums_one, Int.toNat_natCast]
    by_cases h : u < 10
    · rw [if_pos (by omega), decDigits, dif_pos h, show u % 10 = u by omega]
    · rw [if_neg (by omega)]
      have hq : wrap64 (Int.tdiv (u : Int) 10) = ((u / 10 : Nat) : Int) := by
        rw [Int.tdiv_eq_ediv_of_nonneg (by omega), wrap64_in _ (by omega) (by omega)]
        omega
      have hK : 0 < K := by
        rcases Nat.eq_zero_or_pos K with h0 | h0
        · subst h0; simp at hu; omega
        · exact h0
      have ih := fmt_pos K (u / 10) hK (by rw [Nat.pow_succ] at hu; omega) (by omega)
      have hl := dec_len (u / 10) 18 (by omega)
      rw [hq, ih]
      simp only [Option.bind_some]
      have hz1 : (⟨(decDigits (u / 10)).toArray⟩ : ByteArray).size = (decDigits (u / 10)).length := rfl
      have hz2 : (⟨#[UInt8.ofNat (48 + u % 10)]⟩ : ByteArray).size = 1 := rfl
      rw [hz1, hz2, if_pos (by omega)]
      rw [show (⟨#[UInt8.ofNat (48 + u % 10)]⟩ : ByteArray) = ⟨[UInt8.ofNat (48 + u % 10)].toArray⟩ from rfl, app_list]
      conv => rhs; rw [decDigits, dif_neg h]
theorem least_text : textOf (-9223372036854775808) = (⟨#[45, 57, 50, 50, 51, 51, 55, 50, 48, 51, 54, 56, 53, 52, 55, 55, 53, 56, 48, 56]⟩ : ByteArray) := by
  have h := dec_back 18 [57, 50, 50, 51, 51, 55, 50, 48, 51, 54, 56, 53, 52, 55, 55, 53, 56, 48, 56] rfl (by unfold isDig; decide) (fun _ b hb => by
    simp only [List.head?_cons, Option.some.injEq] at hb
    rw [← hb]
    decide)
  rw [show valL [57, 50, 50, 51, 51, 55, 50, 48, 51, 54, 56, 53, 52, 55, 55, 53, 56, 48, 56] = 9223372036854775808 by decide] at h
  unfold textOf itoa
  rw [if_pos (by decide), show (-9223372036854775808 : Int).natAbs = 9223372036854775808 from rfl, h]
theorem fmt_21 (n : Int) (h0 : -9223372036854775808 ≤ n) (h1 : n ≤ 9223372036854775807) : palioref01_Format.f 21 n = some (textOf n) := by
  by_cases hl : n = -9223372036854775808
  · subst hl
    rw [palioref01_Format.f, if_pos rfl, least_text]
  · by_cases hn : n < 0
    · have ih := fmt_pos 20 n.natAbs (by omega) (by omega) (by omega)
      rw [palioref01_Format.f, if_neg hl, if_pos hn, wrap64_in _ (by omega) (by omega), show -n = ((n.natAbs : Nat) : Int) by omega, ih]
      simp only [Option.bind_some]
      have hlen := dec_len n.natAbs 18 (by omega)
      have hz1 : (⟨(decDigits n.natAbs).toArray⟩ : ByteArray).size = (decDigits n.natAbs).length := rfl
      rw [hz1, if_pos (by omega)]
      rw [show (⟨#[45]⟩ : ByteArray) = ⟨[45].toArray⟩ from rfl, app_list]
      unfold textOf itoa
      rw [if_pos hn]
      rfl
    · have ih := fmt_pos 21 n.toNat (by omega) (by omega) (by omega)
      rw [Int.toNat_of_nonneg (by omega)] at ih
      rw [ih]
      unfold textOf itoa
      rw [if_neg hn]
theorem fmt_more (n : Int) (h0 : -9223372036854775808 ≤ n) (h1 : n ≤ 9223372036854775807) : ∀ j : Nat, palioref01_Format.f (21 + j) n = some (textOf n)
  | 0 => fmt_21 n h0 h1
  | j + 1 => palioref01_Format.mono n (21 + j) _ (fmt_more n h0 h1 j)
theorem fmt_k (n : Int) (h0 : -9223372036854775808 ≤ n) (h1 : n ≤ 9223372036854775807) (k : Nat) (hk : 21 ≤ k) : palioref01_Format.f k n = some (textOf n) := by
  have := fmt_more n h0 h1 (k - 21)
  rwa [show 21 + (k - 21) = k by omega] at this
theorem toL_inj (a b : ByteArray) : a.toList = b.toList ↔ a = b := by
  rw [ByteArray.toList_eq, ByteArray.toList_eq]
  constructor
  · intro h
    exact ByteArray.ext (Array.toList_inj.1 h)
  · intro h
    rw [h]
/-- What is parsed: nothing, or a number whose text it is. -/
def Told' (s : ByteArray) (r : Int × Int) : Prop := r = (0, 10) ∨ (r.2 = 0 ∧ textOf r.1 = s ∧ -9223372036854775808 ≤ r.1 ∧ r.1 ≤ 9223372036854775807)
theorem end_told (s : ByteArray) (neg : Bool) (x : Int) (h0 : -9223372036854775808 ≤ x) (h1 : x ≤ 0) (k : Nat) (hk : 21 ≤ k) (i : Int) (hi : ¬ i < (s.size : Int)) : ∃ r, palioref01_Parse.l0 (k + 1) s neg x i = some r ∧ Told' s r := by
  rw [palioref01_Parse.l0, if_neg hi]
  cases neg with
  | true =>
    rw [if_pos rfl, fmt_k x h0 (by omega) k hk]
    simp only [Option.bind_some]
    by_cases he : (textOf x).toList = s.toList
    · rw [if_pos he]
      exact ⟨_, rfl, .inr ⟨rfl, (toL_inj _ _).1 he, h0, by simp only; omega⟩⟩
    · rw [if_neg he]
      exact ⟨_, rfl, .inl rfl⟩
  | false =>
    rw [if_neg (by simp)]
    by_cases hl : x = -9223372036854775808
    · rw [if_pos hl]
      exact ⟨_, rfl, .inl rfl⟩
    · rw [if_neg hl, wrap64_in _ (by omega) (by omega), fmt_k (-x) (by omega) (by omega) k hk]
      simp only [Option.bind_some]
      by_cases he : (textOf (-x)).toList = s.toList
      · rw [if_pos he]
        exact ⟨_, rfl, .inr ⟨rfl, (toL_inj _ _).1 he, by simp only; omega, by simp only; omega⟩⟩
      · rw [if_neg he]
        exact ⟨_, rfl, .inl rfl⟩
theorem tdiv_low (d : Int) (h0 : 0 ≤ d) (h1 : d ≤ 255) : Int.tdiv ((-9223372036854775808) + d) 10 = -((9223372036854775808 - d) / 10) := by
  rw [show (-9223372036854775808) + d = -(9223372036854775808 - d) by omega, Int.neg_tdiv, Int.tdiv_eq_ediv_of_nonneg (by omega)]
theorem loop_told (s : ByteArray) (hs : s.size ≤ 1000) (neg : Bool) : ∀ (m i : Nat) (x : Int), i + m = s.size → -9223372036854775808 ≤ x → x ≤ 0 → ∃ r, palioref01_Parse.l0 (3 * m + 22) s neg x (i : Int) = some r ∧ Told' s r
  | 0, i, x, h, h0, h1 => end_told s neg x h0 h1 21 (by omega) (i : Int) (by omega)
  | m + 1, i, x, h, h0, h1 => by
    have ih := fun y a b => loop_told s hs neg m (i + 1) y (by omega) a b
    have ih2 := ih x h0 h1
    have hi1 : wrap64 ((i : Int) + 1) = ((i + 1 : Nat) : Int) := by rw [wrap64_in _ (by omega) (by omega)]; omega
    rw [show 3 * (m + 1) + 22 = (3 * m + 22 + 2) + 1 by omega, palioref01_Parse.l0, if_pos (by omega)]
    have hbr := bt_range s (i : Int)
    have j3 : ∀ b : Bool, (b = false → 48 ≤ bt s (i : Int) ∧ bt s (i : Int) ≤ 57) → ∃ r, palioref01_Parse.j3 (3 * m + 22 + 1) s neg x (i : Int) b = some r ∧ Told' s r := by
      intro b hb
      cases b with
      | true => exact ⟨_, by rw [palioref01_Parse.j3, if_pos rfl], .inl rfl⟩
      | false =>
        obtain ⟨g1, g2⟩ := hb rfl
        have hd : (bt s (i : Int) - 48) % 256 = bt s (i : Int) - 48 := by omega
        rw [palioref01_Parse.j3, if_neg (by simp), if_pos (by omega), if_pos (by omega), wrap_ten, hd, tdiv_low _ (by omega) (by omega)]
        by_cases hx : x < -((9223372036854775808 - (bt s (i : Int) - 48)) / 10)
        · rw [if_pos hx]
          exact ⟨_, rfl, .inl rfl⟩
        · rw [if_neg hx, hi1, wrap64_in (10 * x) (by omega) (by omega), wrap64_in _ (by omega) (by omega)]
          exact ih _ (by omega) (by omega)
    have j2f : ∃ r, palioref01_Parse.j2 (3 * m + 22 + 2) s neg x (i : Int) false = some r ∧ Told' s r := by
      rw [palioref01_Parse.j2, if_neg (by simp), if_pos (by omega), if_pos (by omega)]
      by_cases hl : bt s (i : Int) < 48
      · rw [if_pos hl]
        exact j3 true (fun h => by cases h)
      · rw [if_neg hl]
        exact j3 _ (fun h => by
          have := of_decide_eq_false h
          omega)
    have j2 : ∀ b : Bool, ∃ r, palioref01_Parse.j2 (3 * m + 22 + 2) s neg x (i : Int) b = some r ∧ Told' s r := by
      intro b
      cases b with
      | false => exact j2f
      | true =>
        obtain ⟨r, hr, ht⟩ := ih2
        refine ⟨r, ?_, ht⟩
        rw [palioref01_Parse.j2, if_pos rfl, hi1]
        exact (palioref01_Parse.mono_l (3 * m + 22)).2.1 _ _ _ _ _ hr
    split
    · exact j2 neg
    · exact j2f
theorem val_le (a : List UInt8) : ∀ b : List UInt8, valL a ≤ valL (a ++ b) := by
  intro b
  induction b generalizing a with
  | nil => rw [List.append_nil]; exact Nat.le_refl _
  | cons x b ih =>
    have h1 := ih (a ++ [x])
    rw [List.append_assoc, List.singleton_append] at h1
    have h2 := valL_snoc a x
    omega
theorem j3_go (K : Nat) (s : ByteArray) (neg : Bool) (x i d : Int) (hi0 : 0 ≤ i) (hi : i < (s.size : Int)) (hs : s.size ≤ 1000) (hb : bt s i = d) (h48 : 48 ≤ d) (h57 : d ≤ 57) (hx : -9223372036854775808 ≤ 10 * x - (d - 48)) (hx1 : x ≤ 0) : palioref01_Parse.j3 (K + 1) s neg x i false = palioref01_Parse.l0 K s neg (10 * x - (d - 48)) (i + 1) := by
  have e1 : (d - 48) % 256 = d - 48 := by omega
  have e2 : wrap64 (i + 1) = i + 1 := wrap64_in _ (by omega) (by omega)
  have e3 : wrap64 (10 * x) = 10 * x := wrap64_in _ (by omega) (by omega)
  have e4 : wrap64 (10 * x - (d - 48)) = 10 * x - (d - 48) := wrap64_in _ hx (by omega)
  have e5 := tdiv_low (d - 48) (by omega) (by omega)
  have e6 : ¬ x < -((9223372036854775808 - (d - 48)) / 10) := by omega
  rw [palioref01_Parse.j3, if_neg (by simp), if_pos hi0, if_pos hi, wrap_ten, hb, e1, e5, if_neg e6, e2, e3, e4]
theorem j2_go (K : Nat) (s : ByteArray) (neg : Bool) (x i d : Int) (hi0 : 0 ≤ i) (hi : i < (s.size : Int)) (hs : s.size ≤ 1000) (hb : bt s i = d) (h48 : 48 ≤ d) (h57 : d ≤ 57) (hx : -9223372036854775808 ≤ 10 * x - (d - 48)) (hx1 : x ≤ 0) : palioref01_Parse.j2 (K + 1 + 1) s neg x i false = palioref01_Parse.l0 K s neg (10 * x - (d - 48)) (i + 1) := by
  have h1 : ¬ bt s i < 48 := by omega
  have h2 : decide (bt s i > 57) = false := decide_eq_false (by omega)
  rw [palioref01_Parse.j2, if_neg (by simp), if_pos hi0, if_pos hi, if_neg h1, h2, j3_go K s neg x i d hi0 hi hs hb h48 h57 hx hx1]
theorem l0_go (K : Nat) (s : ByteArray) (neg : Bool) (x i d : Int) (hi0 : 0 ≤ i) (hi : i < (s.size : Int)) (hn : i ≠ 0 ∨ neg = false) (hs : s.size ≤ 1000) (hb : bt s i = d) (h48 : 48 ≤ d) (h57 : d ≤ 57) (hx : -9223372036854775808 ≤ 10 * x - (d - 48)) (hx1 : x ≤ 0) : palioref01_Parse.l0 (K + 1 + 1 + 1) s neg x i = palioref01_Parse.l0 K s neg (10 * x - (d - 48)) (i + 1) := by
  have h := j2_go K s neg x i d hi0 hi hs hb h48 h57 hx hx1
  rw [palioref01_Parse.l0, if_pos hi]
  by_cases h0 : i = 0
  · rw [if_pos h0]
    rcases hn with hn | hn
    · exact absurd h0 hn
    · rw [hn] at h ⊢
      exact h
  · rw [if_neg h0]
    exact h
theorem trace (s : ByteArray) (neg : Bool) (L : List UInt8) (n : Int) (h0 : -9223372036854775808 ≤ n) (h1 : n ≤ 9223372036854775807) (hs : textOf n = s) (hsz : s.size ≤ 1000)
    (off : Nat) (hoff : neg = true → off = 1) (hlen : L.length + off = s.size) (hat : ∀ i (h : i < L.length), bt s ((i + off : Nat) : Int) = ((L[i]'h).toNat : Int)) (hdig : ∀ b, b ∈ L → isDig b) (hv1 : neg = true → (valL L : Int) = -n) (hv0 : neg = false → (valL L : Int) = n) :
    ∀ m i, i + m = L.length → palioref01_Parse.l0 (3 * m + 22) s neg (-(valL (L.take i) : Int)) ((i + off : Nat) : Int) = some (n, 0)
  | 0, i, h => by
    have hno : ¬ ((i + off : Nat) : Int) < (s.size : Int) := by omega
    rw [palioref01_Parse.l0, if_neg hno, List.take_of_length_le (by omega)]
    cases neg with
    | true =>
      rw [if_pos rfl, hv1 rfl, show -(-n) = n by omega, fmt_k n h0 h1 21 (by omega)]
      simp only [Option.bind_some]
      rw [if_pos (by rw [hs])]
    | false =>
      have hn := hv0 rfl
      have hnl : ¬ -n = -9223372036854775808 := by omega
      rw [if_neg (by simp), hn, if_neg hnl, show -(-n) = n by omega, wrap64_in n h0 h1, fmt_k n h0 h1 21 (by omega)]
      simp only [Option.bind_some]
      rw [if_pos (by rw [hs])]
  | m + 1, i, h => by
    have ih := trace s neg L n h0 h1 hs hsz off hoff hlen hat hdig hv1 hv0 m (i + 1) (by omega)
    have hi : i < L.length := by omega
    have hb := hat i hi
    have hd := hdig _ (List.getElem_mem hi)
    unfold isDig at hd
    have hv : valL (L.take (i + 1)) = 10 * valL (L.take i) + ((L[i]'hi).toNat - 48) := by rw [List.take_succ_eq_append_getElem hi, valL_snoc]
    have hle := val_le (L.take (i + 1)) (L.drop (i + 1))
    rw [List.take_append_drop] at hle
    have hbound : (valL L : Int) ≤ 9223372036854775808 := by
      cases neg with
      | true => rw [hv1 rfl]; omega
      | false => rw [hv0 rfl]; omega
    generalize hA : valL (L.take i) = A at hv ⊢
    generalize hB : valL (L.take (i + 1)) = B at hv hle ih
    generalize (L[i]'hi).toNat = D at hb hd hv
    have hgo := l0_go (3 * m + 22) s neg (-(A : Int)) ((i + off : Nat) : Int) (D : Int) (by omega) (by omega) (by
      cases neg with
      | true => have := hoff rfl; exact .inl (by omega)
      | false => exact .inr rfl) hsz hb (by omega) (by omega) (by omega) (by omega)
    have e : 10 * -(A : Int) - ((D : Int) - 48) = -(B : Int) := by omega
    have e2 : ((i + off : Nat) : Int) + 1 = ((i + 1 + off : Nat) : Int) := by omega
    rw [show 3 * (m + 1) + 22 = 3 * m + 22 + 1 + 1 + 1 by omega, hgo, e, e2]
    exact ih
theorem l0_more (s : ByteArray) (neg : Bool) (x i : Int) (r : Int × Int) (k : Nat) (h : palioref01_Parse.l0 k s neg x i = some r) : ∀ j : Nat, palioref01_Parse.l0 (k + j) s neg x i = some r
  | 0 => h
  | j + 1 => (palioref01_Parse.mono_l (k + j)).2.1 _ _ _ _ _ (l0_more s neg x i r k h j)
/-- The document's answer is the program's. -/
theorem parse_same (c : ByteArray) (hc : c.size ≤ 1000) (r : Int × Int) (hp : ints_Parse.f c = some r) : palioref01_Parse.f 130 c = some r := by
  have hr : r = (0, 10) ∨ r.2 = 0 := by
    have key : ∀ b rest, parseOf b rest = (0, 10) ∨ (parseOf b rest).2 = 0 := by
      intro b rest
      unfold parseOf
      split
      · split
        · split
          · exact .inr rfl
          · exact .inl rfl
        · split
          · exact .inr rfl
          · exact .inl rfl
      · exact .inl rfl
    unfold ints_Parse.f at hp
    rw [if_pos (by omega)] at hp
    injection hp with hp
    rw [← hp]
    split
    · exact key _ _
    · exact key _ _
  have f0 : palioref01_Parse.f 130 c = if (c.size : Int) < 1 ∨ 20 < (c.size : Int) then some (0, 10) else palioref01_Parse.l0 129 c ((bt c 0) == 45) 0 0 := by
    unfold palioref01_Parse.f
    by_cases h1 : (c.size : Int) < 1
    · rw [if_pos h1, if_pos (.inl h1), palioref01_Parse.j0, if_pos rfl]
    · rw [if_neg h1]
      by_cases h2 : (c.size : Int) > 20
      · rw [decide_eq_true h2, if_pos (.inr h2), palioref01_Parse.j0, if_pos rfl]
      · rw [decide_eq_false h2, if_neg (by omega), palioref01_Parse.j0, if_neg (by simp), if_pos (by omega)]
  rw [f0]
  rcases hr with hr | hr
  · subst hr
    by_cases hz : (c.size : Int) < 1 ∨ 20 < (c.size : Int)
    · rw [if_pos hz]
    · rw [if_neg hz]
      obtain ⟨q, hq, ht⟩ := loop_told c (by omega) ((bt c 0) == 45) c.size 0 0 (by omega) (by omega) (by omega)
      have hq2 := l0_more _ _ _ _ _ _ hq (129 - (3 * c.size + 22))
      rw [show 3 * c.size + 22 + (129 - (3 * c.size + 22)) = 129 by omega] at hq2
      have hq3 : palioref01_Parse.l0 129 c ((bt c 0) == 45) 0 0 = some q := hq2
      rw [hq3]
      rcases ht with ht | ⟨ht1, ht2, ht3, ht4⟩
      · rw [ht]
      · have := parse_text q.1 ht3 ht4
        rw [ht2, hp] at this
        simp at this
  · obtain ⟨n, f⟩ := r
    simp only at hr
    subst hr
    obtain ⟨b0, b1⟩ := parse_bd c n 0 hp
    have hst := text_parse c n hp
    have hlen := text_len n b0 b1
    have hsz : c.size ≤ 20 := by rw [← hst]; exact hlen
    by_cases hn : n < 0
    · obtain ⟨d1, d2, d3, _, _⟩ := dec_facts n.natAbs
      have hl : c.data.toList = 45 :: decDigits n.natAbs := by rw [← hst, text_list]; unfold itoa; rw [if_pos hn]
      have hcs : c.size = (decDigits n.natAbs).length + 1 := by show c.data.toList.length = _; rw [hl]; rfl
      rw [if_neg (by omega)]
      have hb0 : bt c 0 = 45 := by
        have := bt_get c 0 (by omega)
        rw [show ((0 : Nat) : Int) = 0 from rfl] at this
        rw [this]
        simp only [hl]
        rfl
      have htr := trace c true (decDigits n.natAbs) n b0 b1 hst (by omega) 1 (fun _ => rfl) (by omega) (fun i h => by
        rw [bt_get c (i + 1) (by omega)]
        simp only [hl]
        rfl) d1 (fun _ => by rw [d2]; omega) (fun e => by cases e) (decDigits n.natAbs).length 0 (by omega)
      have ht2 := l0_more _ _ _ _ _ _ htr (127 - (3 * (decDigits n.natAbs).length + 22))
      rw [show 3 * (decDigits n.natAbs).length + 22 + (127 - (3 * (decDigits n.natAbs).length + 22)) = 127 by omega] at ht2
      rw [hb0, show ((45 : Int) == 45) = true from rfl, palioref01_Parse.l0, if_pos (by omega), if_pos rfl, palioref01_Parse.j2, if_pos rfl, show wrap64 (0 + 1) = ((0 + 1 : Nat) : Int) from by rw [wrap64_in _ (by omega) (by omega)]; rfl]
      exact ht2
    · obtain ⟨d1, d2, d3, _, _⟩ := dec_facts n.toNat
      have hl : c.data.toList = decDigits n.toNat := by rw [← hst, text_list]; unfold itoa; rw [if_neg hn]
      have hcs : c.size = (decDigits n.toNat).length := by show c.data.toList.length = _; rw [hl]
      have hpos : 0 < (decDigits n.toNat).length := List.length_pos_iff.2 d3
      rw [if_neg (by omega)]
      have hb0 : ((bt c 0) == 45) = false := by
        have := bt_get c 0 (by omega)
        rw [show ((0 : Nat) : Int) = 0 from rfl] at this
        have hm : (c.data.toList[0]'(by show 0 < c.size; omega)) ∈ decDigits n.toNat := by
          rw [← hl]
          exact List.getElem_mem _
        have hd := d1 _ hm
        unfold isDig at hd
        rw [this, beq_eq_false_iff_ne]
        omega
      have htr := trace c false (decDigits n.toNat) n b0 b1 hst (by omega) 0 (fun e => by cases e) (by omega) (fun i h => by
        rw [bt_get c (i + 0) (by omega)]
        simp only [hl]
        rfl) d1 (fun e => by cases e) (fun _ => by rw [d2]; omega) (decDigits n.toNat).length 0 (by omega)
      have ht2 := l0_more _ _ _ _ _ _ htr (129 - (3 * (decDigits n.toNat).length + 22))
      rw [show 3 * (decDigits n.toNat).length + 22 + (129 - (3 * (decDigits n.toNat).length + 22)) = 129 by omega] at ht2
      rw [hb0]
      exact ht2
end Go.Proofs.YtnglofnelmojnaaDoor.P
