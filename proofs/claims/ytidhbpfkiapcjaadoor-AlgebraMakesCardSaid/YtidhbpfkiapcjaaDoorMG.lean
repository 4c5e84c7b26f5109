/- The document's small functions on entries, in plain words: finding, taking out, putting in, sorting, comparing, cutting short. Conditions: each theorem names its own. The program's five functions on sets, as contracts in the printed form. The first sets, cut short and sorted (Few), in plain words; what is a set's. Conditions: each theorem names its own. The three known cases, as a Lean function. What the law's three known cases come to. Small sets stay as they are; how long what is made of them is. Conditions: each theorem names its own. -/
import Derived.Test.YtidhbpfkiapcjaaDoorPy0b
import Derived.Test.YtidhbpfkiapcjaaDoorPureM
import Derived.Test.YtidhbpfkiapcjaaDoorBG
import Derived.Test.YtidhbpfkiapcjaaDoorML
import Derived.Test.YtidhbpfkiapcjaaDoorMS
import Derived.Test.YtidhbpfkiapcjaaDoorPy0a
/-! The document's small functions on entries, in plain words: finding, taking out, putting in, sorting, comparing, cutting short. Conditions: each theorem names its own. -/
section
namespace Go.Proofs.YtidhbpfkiapcjaaDoor.Pure
open Go Go.RowKit Go.Proofs.YtidhbpfkiapcjaaDoorW.PrintWords Go.Proofs.YtidhbpfkiapcjaaDoorW.PrintLast Go.Proofs.YtidhbpfkiapcjaaDoorW.PrintMore Go.Proofs.YtidhbpfkiapcjaaDoor.P

/-- Where a member stands. -/
def findI (l : List S36) (m : ByteArray) : Option Nat := l.findIdx? (fun e => decide (e.f0 = m))
def encF : Option Nat → Int
  | some i => i
  | none => -1
theorem find_loop (l : List S36) (m : ByteArray) (hl : l.length ≤ 1000000) : ∀ (d i k : Nat), i ≤ l.length → l.length - i = d → d < k → palioref05_Find.l0 k l m i = some (encF (((l.drop i).findIdx? (fun e => decide (e.f0 = m))).map (· + i)))
  | 0, i, k, hi, hd, hk => by
    obtain ⟨k, rfl⟩ : ∃ n, k = n + 1 := ⟨k - 1, by omega⟩
    obtain rfl : i = l.length := by omega
    unfold palioref05_Find.l0
    rw [if_neg (by omega), List.drop_length]
    rfl
  | d + 1, i, k, hi, hd, hk => by
    obtain ⟨k, rfl⟩ : ∃ n, k = n + 1 := ⟨k - 1, by omega⟩
    have hil : i < l.length := by omega
    unfold palioref05_Find.l0
    rw [if_pos (by omega), if_pos (by omega), rd36_get hil, List.drop_eq_getElem_cons hil, List.findIdx?_cons]
    by_cases h : l[i].f0 = m
    · rw [if_pos (by rw [h]), decide_eq_true h, if_pos rfl]
      simp [encF]
    · rw [if_neg (fun e => h (toList_inj e)), decide_eq_false h, if_neg (by simp), wrap_succ i (by omega), find_loop l m hl d (i + 1) k (by omega) (by omega) (by omega)]
      congr 2
      cases (l.drop (i + 1)).findIdx? (fun e => decide (e.f0 = m)) with
      | none => rfl
      | some j => simp; omega
theorem find_ref (l : List S36) (m : ByteArray) (hl : l.length ≤ 1000000) (k : Nat) (hk : l.length < k) : palioref05_Find.f k l m = some (encF (findI l m)) := by
  unfold palioref05_Find.f
  have := find_loop l m hl l.length 0 k (by omega) (by omega) hk
  rw [show ((0 : Nat) : Int) = 0 from rfl] at this
  rw [this, List.drop_zero]
  unfold findI
  cases l.findIdx? (fun e => decide (e.f0 = m)) <;> rfl
theorem encF_pos (o : Option Nat) : 0 ≤ encF o ↔ o.isSome = true := by
  cases o with
  | none => simp [encF]
  | some i => simp [encF]
theorem findI_none {l : List S36} {m : ByteArray} : findI l m = none ↔ ∀ e ∈ l, e.f0 ≠ m := by
  unfold findI
  simp
theorem findI_some {l : List S36} {m : ByteArray} {i : Nat} (h : findI l m = some i) : ∃ hi : i < l.length, l[i].f0 = m := by
  unfold findI at h
  obtain ⟨hi, h1, _⟩ := List.findIdx?_eq_some_iff_getElem.1 h
  exact ⟨hi, by simpa using h1⟩
/-- No member stands twice. -/
def ApartE (l : List S36) : Prop := l.Pairwise (fun p q => p.f0 ≠ q.f0)
theorem delete_ref (l : List S36) (i : Nat) (hi : i < l.length) (hl : l.length ≤ 1000000) : palioref05_Delete.f l i = some (l.take i ++ l.drop (i + 1)) := by
  have h1 : ([] : List S36).length + (l.take i).length < 5864062014805 := by rw [List.length_take, List.length_nil]; omega
  have h2 : (([] : List S36) ++ l.take i).length + (l.drop (i + 1)).length < 5864062014805 := by rw [List.nil_append, List.length_take, List.length_drop]; omega
  have hw := wrap_succ i (by omega)
  have h3 : (0 : Int) ≤ (i : Int) := by omega
  have h4 : (i : Int) ≤ (l.length : Int) := by omega
  have h5 : (0 : Int) ≤ ((i + 1 : Nat) : Int) := by omega
  have h6 : ((i + 1 : Nat) : Int) ≤ (l.length : Int) := by omega
  unfold palioref05_Delete.f
  rw [if_pos h3, if_pos h4, Option.bind_some, Int.toNat_natCast, if_pos h1, Option.bind_some, hw, if_pos h5, if_pos h6, Option.bind_some, Int.toNat_natCast, if_pos h2, List.nil_append]
theorem del_at : ∀ (l : List S36) (m : ByteArray) (i : Nat), ApartE l → findI l m = some i → l.take i ++ l.drop (i + 1) = l.filter (fun e => !decide (e.f0 = m))
  | [], m, i, _, h => by cases h
  | x :: r, m, i, ha, h => by
    have h1 := List.pairwise_cons.1 ha
    unfold findI at h
    rw [List.findIdx?_cons] at h
    by_cases hx : x.f0 = m
    · rw [decide_eq_true hx, if_pos rfl] at h
      cases h
      rw [List.filter_cons, if_neg (by simp [hx])]
      simp only [List.take_zero, List.nil_append, Nat.zero_add, List.drop_succ_cons, List.drop_zero]
      symm
      rw [List.filter_eq_self]
      intro e he
      have := h1.1 e he
      rw [hx] at this
      simp
      exact fun e' => this e'.symm
    · rw [decide_eq_false hx, if_neg (by simp)] at h
      obtain ⟨j, hj, rfl⟩ := Option.map_eq_some_iff.1 h
      rw [List.filter_cons, if_pos (by simp [hx]), List.take_succ_cons, List.drop_succ_cons, List.cons_append, del_at r m j h1.2 hj]
theorem del_none {l : List S36} {m : ByteArray} (h : findI l m = none) : l.filter (fun e => !decide (e.f0 = m)) = l := by
  rw [List.filter_eq_self]
  intro e he
  have := findI_none.1 h e he
  simp [this]
theorem insert_ref (l : List S36) (i : Nat) (e : S36) (hi : i ≤ l.length) (hl : l.length ≤ 1000000) : palioref05_Insert.f l i e.f0 e.f1 = some (l.take i ++ e :: l.drop i) := by
  have h1 : ([] : List S36).length + (l.take i).length < 5864062014805 := by rw [List.length_take, List.length_nil]; omega
  have h2 : (([] : List S36) ++ l.take i).length + [(⟨e.f0, e.f1⟩ : S36)].length < 5864062014805 := by rw [List.nil_append, List.length_take, List.length_singleton]; omega
  have h3 : ((([] : List S36) ++ l.take i) ++ [(⟨e.f0, e.f1⟩ : S36)]).length + (l.drop i).length < 5864062014805 := by rw [List.nil_append, List.length_append, List.length_take, List.length_singleton, List.length_drop]; omega
  have h4 : (0 : Int) ≤ (i : Int) := by omega
  have h5 : (i : Int) ≤ (l.length : Int) := by omega
  unfold palioref05_Insert.f
  rw [if_pos h4, if_pos h5, Option.bind_some, Int.toNat_natCast, if_pos h1, Option.bind_some, Option.bind_some, if_pos h2, Option.bind_some, Option.bind_some, if_pos h3, List.nil_append, List.append_assoc]
  rfl
/-- An entry put in, in order. -/
def insE (e : S36) : List S36 → List S36
  | [] => [e]
  | x :: r => if lessE x e = true then x :: insE e r else e :: x :: r
theorem insE_perm (e : S36) : ∀ l : List S36, (insE e l).Perm (e :: l)
  | [] => List.Perm.refl _
  | x :: r => by
    unfold insE
    split
    · exact ((insE_perm e r).cons x).trans (List.Perm.swap _ _ _)
    · exact List.Perm.refl _
theorem insE_sorted (e : S36) : ∀ l : List S36, l.Pairwise (fun a b => leE a b = true) → (insE e l).Pairwise (fun a b => leE a b = true)
  | [], _ => by unfold insE; exact List.pairwise_singleton _ _
  | x :: r, h => by
    have h1 := List.pairwise_cons.1 h
    unfold insE
    split
    · rename_i hx
      refine List.Pairwise.cons ?_ (insE_sorted e r h1.2)
      intro y hy
      rcases List.mem_cons.1 ((insE_perm e r).mem_iff.1 hy) with rfl | hy
      · unfold leE; rw [lessE_asymm _ _ hx]; rfl
      · exact h1.1 y hy
    · rename_i hx
      have hex : leE e x = true := by unfold leE; simp at hx; rw [hx]; rfl
      refine List.Pairwise.cons ?_ h
      intro y hy
      rcases List.mem_cons.1 hy with rfl | hy
      · exact hex
      · exact leE_trans _ _ _ hex (h1.1 y hy)
theorem sorted_eq {l : List S36} {T : List (ByteArray × Int)} (h : l.Pairwise (fun a b => leE a b = true)) (hp : l.Perm (T.map (fun p => (⟨p.1, p.2⟩ : S36)))) : l = sortT T := by
  unfold sortT
  exact (hp.trans (List.mergeSort_perm _ leE).symm).eq_of_pairwise (fun a b _ _ h1 h2 => leE_anti a b h1 h2) h (List.pairwise_mergeSort leE_trans leE_total _)
theorem sortT_sorted (T : List (ByteArray × Int)) : (sortT T).Pairwise (fun a b => leE a b = true) := List.pairwise_mergeSort leE_trans leE_total _
theorem sortT_perm (T : List (ByteArray × Int)) : (sortT T).Perm (T.map (fun p => (⟨p.1, p.2⟩ : S36))) := List.mergeSort_perm _ leE
theorem sortT_congr {T T' : List (ByteArray × Int)} (h : T.Perm T') : sortT T = sortT T' := sort_perm (h.map _)
theorem sortT_len (T : List (ByteArray × Int)) : (sortT T).length = T.length := by rw [(sortT_perm T).length_eq, List.length_map]
theorem mem_sortT {T : List (ByteArray × Int)} {e : S36} : e ∈ sortT T ↔ (e.f0, e.f1) ∈ T := by
  rw [(sortT_perm T).mem_iff, List.mem_map]
  constructor
  · rintro ⟨p, hp, rfl⟩; exact hp
  · intro h; exact ⟨_, h, rfl⟩
theorem sortT_apart {T : List (ByteArray × Int)} (h : Apart T) : ApartE (sortT T) := by
  unfold ApartE
  refine ((sortT_perm T).pairwise_iff (fun h => Ne.symm h)).2 ?_
  rw [List.pairwise_map]
  exact h
theorem sortT_put (T : List (ByteArray × Int)) (e : S36) : insE e ((sortT T).filter (fun x => !decide (x.f0 = e.f0))) = sortT (putT T e.f0 e.f1) := by
  refine sorted_eq (insE_sorted e _ ((sortT_sorted T).filter _)) ?_
  refine (insE_perm e _).trans ?_
  unfold putT
  rw [List.map_cons]
  refine List.Perm.cons _ ?_
  refine ((sortT_perm T).filter _).trans ?_
  rw [List.filter_map]
  exact List.Perm.refl _
/-- The order loop. -/
theorem sorted_loop (l : List S36) (e : S36) (hl : l.length ≤ 1000000) (hs : ∀ x ∈ l, x.f0.size ≤ 10) : ∀ (d i k : Nat), i ≤ l.length → l.length - i = d → d + 30 < k → palioref11_Sorted.l0 k l i e.f0 e.f1 = some (l.take i ++ insE e (l.drop i))
  | 0, i, k, hi, hd, hk => by
    obtain ⟨k, rfl⟩ : ∃ n, k = n + 1 := ⟨k - 1, by omega⟩
    obtain rfl : i = l.length := by omega
    unfold palioref11_Sorted.l0
    rw [if_neg (by omega), insert_ref l l.length e (Nat.le_refl _) hl, List.drop_length]
    rfl
  | d + 1, i, k, hi, hd, hk => by
    obtain ⟨k, rfl⟩ : ∃ n, k = n + 1 := ⟨k - 1, by omega⟩
    have hil : i < l.length := by omega
    have hsz := hs l[i] (List.getElem_mem hil)
    unfold palioref11_Sorted.l0
    rw [if_pos (by omega), if_pos (by omega), rd36_get hil, ahead_ref _ _ _ _ (by omega) k (by omega)]
    simp only [Option.bind_some]
    rw [List.drop_eq_getElem_cons hil]
    unfold insE
    by_cases h : lessE l[i] e = true
    · rw [if_pos (show ahead _ _ _ _ = true from h), if_pos h, wrap_succ i (by omega), sorted_loop l e hl hs d (i + 1) k (by omega) (by omega) (by omega), List.take_succ_eq_append_getElem hil]
      rw [List.append_assoc]
      rfl
    · rw [if_neg (show ¬ ahead _ _ _ _ = true from h), if_neg h, insert_ref l i e (by omega) hl, List.drop_eq_getElem_cons hil]
      rfl
theorem sorted_ref (l : List S36) (e : S36) (hl : l.length ≤ 1000000) (hs : ∀ x ∈ l, x.f0.size ≤ 10) (k : Nat) (hk : l.length + 30 < k) : palioref11_Sorted.f k l e.f0 e.f1 = some (insE e l) := by
  unfold palioref11_Sorted.f
  have := sorted_loop l e hl hs l.length 0 k (by omega) (by omega) hk
  rw [show ((0 : Nat) : Int) = 0 from rfl] at this
  rw [this]
  simp
theorem mem_putT {T : List (ByteArray × Int)} {m : ByteArray} {v : Int} {p : ByteArray × Int} (h : p ∈ putT T m v) : p = (m, v) ∨ p ∈ T := by
  rcases List.mem_cons.1 h with h | h
  · exact .inl h
  · exact .inr (mem_del.1 h).1
theorem mem_tabT (l : List S36) {p : ByteArray × Int} (h : p ∈ tabT l) : ∃ e ∈ l, p = (e.f0, e.f1) := by
  have : ∀ (l : List S36) (T : List (ByteArray × Int)), p ∈ l.foldl (fun T e => putT T e.f0 e.f1) T → p ∈ T ∨ ∃ e ∈ l, p = (e.f0, e.f1) := by
    intro l
    induction l with
    | nil => intro T h; exact .inl h
    | cons x r ih =>
      intro T h
      rcases ih _ h with h | ⟨e, he, rfl⟩
      · rcases mem_putT h with rfl | h
        · exact .inr ⟨x, List.mem_cons_self, rfl⟩
        · exact .inl h
      · exact .inr ⟨e, List.mem_cons_of_mem _ he, rfl⟩
  rcases this l [] h with h | h
  · cases h
  · exact h
theorem sort_loop (x : List S36) (hx : x.length ≤ 1000) (hs : ∀ e ∈ x, e.f0.size ≤ 10) : ∀ (d i k : Nat), i ≤ x.length → x.length - i = d → 2 * x.length + d + 40 < k → palioref13_Sort.l0 k x (sortT (tabT (x.take i))) i = some (sortT (tabT x))
  | 0, i, k, hi, hd, hk => by
    obtain ⟨k, rfl⟩ : ∃ n, k = n + 1 := ⟨k - 1, by omega⟩
    obtain rfl : i = x.length := by omega
    unfold palioref13_Sort.l0
    rw [if_neg (by omega), List.take_length]
  | d + 1, i, k, hi, hd, hk => by
    obtain ⟨k, rfl⟩ : ∃ n, k = n + 1 := ⟨k - 1, by omega⟩
    have hil : i < x.length := by omega
    have hlen : (sortT (tabT (x.take i))).length ≤ x.length := by rw [sortT_len]; have := take_len x i (by omega); omega
    have hsz : ∀ e ∈ sortT (tabT (x.take i)), e.f0.size ≤ 10 := by
      intro e he
      obtain ⟨e', he', h⟩ := mem_tabT _ (mem_sortT.1 he)
      injection h with h1 h2
      rw [h1]
      exact hs e' (List.mem_of_mem_take he')
    have hap := sortT_apart (tabT_apart (x.take i))
    have hnext := sort_loop x hx hs d (i + 1) k (by omega) (by omega) (by omega)
    rw [tabT_take x i hil] at hnext
    have hput := sortT_put (tabT (x.take i)) x[i]
    unfold palioref13_Sort.l0
    rw [if_pos (by omega), if_pos (by omega), rd36_get hil, find_ref _ _ (by omega) k (by omega)]
    simp only [Option.bind_some]
    cases hf : findI (sortT (tabT (x.take i))) x[i].f0 with
    | none =>
      rw [del_none hf] at hput
      rw [if_neg (by simp [encF]), sorted_ref _ x[i] (by omega) hsz k (by omega), hput]
      simp only [Option.bind_some]
      rw [wrap_succ i (by omega)]
      exact hnext
    | some j =>
      obtain ⟨hj, _⟩ := findI_some hf
      have hda := del_at _ _ _ hap hf
      rw [← hda] at hput
      rw [if_pos (by simp [encF]), show encF (some j) = (j : Int) from rfl, delete_ref _ j hj (by omega)]
      simp only [Option.bind_some]
      rw [sorted_ref _ x[i] (by simp; omega) (by rw [hda]; exact fun e he => hsz e (List.mem_filter.1 he).1) k (by simp; omega), hput]
      simp only [Option.bind_some]
      rw [wrap_succ i (by omega)]
      exact hnext
theorem sort_ref (x : List S36) (hx : x.length ≤ 1000) (hs : ∀ e ∈ x, e.f0.size ≤ 10) (k : Nat) (hk : 3 * x.length + 40 < k) : palioref13_Sort.f k x = some (sortT (tabT x)) := by
  have := sort_loop x hx hs x.length 0 k (by omega) (by omega) (by omega)
  rw [List.take_zero, show sortT (tabT []) = [] from List.eq_nil_of_length_eq_zero (by rw [sortT_len]; rfl)] at this
  exact this
/-! Two lists are the same. -/
instance : DecidableEq S36 := fun a b => if h : a.f0 = b.f0 ∧ a.f1 = b.f1 then .isTrue (by cases a; cases b; obtain ⟨h1, h2⟩ := h; simp only at h1 h2; rw [h1, h2]) else .isFalse (fun e => h (by rw [e]; exact ⟨rfl, rfl⟩))
theorem s36_ext {a b : S36} (h1 : a.f0 = b.f0) (h2 : a.f1 = b.f1) : a = b := by cases a; cases b; simp only at h1 h2; rw [h1, h2]
theorem same_loop (a b : List S36) (hab : a.length = b.length) (ha : a.length ≤ 1000000) : ∀ (d i k : Nat), i ≤ a.length → a.length - i = d → d < k → palioref05_Same.l0 k a b i = some (decide (a.drop i = b.drop i))
  | 0, i, k, hi, hd, hk => by
    obtain ⟨k, rfl⟩ : ∃ n, k = n + 1 := ⟨k - 1, by omega⟩
    obtain rfl : i = a.length := by omega
    unfold palioref05_Same.l0
    rw [if_neg (by omega), List.drop_length, hab, List.drop_length]
    rfl
  | d + 1, i, k, hi, hd, hk => by
    obtain ⟨k, rfl⟩ : ∃ n, k = n + 1 := ⟨k - 1, by omega⟩
    have hil : i < a.length := by omega
    have hil2 : i < b.length := by omega
    unfold palioref05_Same.l0
    rw [if_pos (by omega), if_pos (by omega), if_pos (by omega), rd36_get hil, rd36_get hil2, wrap_succ i (by omega), same_loop a b hab ha d (i + 1) k (by omega) (by omega) (by omega)]
    have e1 : a.drop i = a[i] :: a.drop (i + 1) := List.drop_eq_getElem_cons hil
    have e2 : b.drop i = b[i] :: b.drop (i + 1) := List.drop_eq_getElem_cons hil2
    by_cases h : a[i] = b[i]
    · rw [if_neg (by rw [h]; simp)]
      congr 1
      exact decide_eq_decide.2 ⟨fun hh => by rw [e1, e2, h, hh], fun hh => by rw [e1, e2] at hh; injection hh⟩
    · have hne : (!((a[i].f0.toList == b[i].f0.toList)) || !(a[i].f1 == b[i].f1)) = true := by
        by_cases h0 : a[i].f0 = b[i].f0
        · have h1 : a[i].f1 ≠ b[i].f1 := fun e => h (s36_ext h0 e)
          simp [h1]
        · have : a[i].f0.toList ≠ b[i].f0.toList := fun e => h0 (toList_inj e)
          simp [this]
      rw [if_pos hne]
      congr 1
      exact (decide_eq_false (by rw [e1, e2]; intro e; injection e with e _; exact h e)).symm
theorem same_ref (a b : List S36) (ha : a.length ≤ 1000000) (k : Nat) (hk : a.length < k) : palioref05_Same.f k a b = some (decide (a = b)) := by
  unfold palioref05_Same.f
  by_cases h : a.length = b.length
  · rw [if_pos (by omega)]
    have := same_loop a b h ha a.length 0 k (by omega) (by omega) hk
    rw [show ((0 : Nat) : Int) = 0 from rfl] at this
    rw [this]
    simp
  · rw [if_neg (by omega), decide_eq_false (fun e => h (by rw [e]))]
end Go.Proofs.YtidhbpfkiapcjaaDoor.Pure
end
/-! The program's five functions on sets, as contracts in the printed form. -/
section
namespace Go.Proofs.YtidhbpfkiapcjaaDoor.P
open Go.RowKit Go.Lib Go.Proofs.YtidhbpfkiapcjaaDoorW.PrintWords Go.Proofs.YtidhbpfkiapcjaaDoorW.PrintLast Go.Proofs.YtidhbpfkiapcjaaDoorW.PrintMore Go.Proofs.YtidhbpfkiapcjaaDoor.Pure
/-- Are the entries such as the contracts want them? -/
def okE (x : List S36) : Bool := decide (x.length ≤ 1000000000) && x.all (fun e => decide (e.f0.size ≤ maxLen) && (Lit.int .i64 e.f1).wf)
def okL (l : List (List S36)) : Bool := decide (l.length ≤ 1000000) && l.all okE && decide ((pairs l).length ≤ 1000000)
theorem okE_good {x : List S36} (h : okE x = true) : x.length ≤ 1000000000 ∧ ∀ e ∈ x, GoodE e := by
  unfold okE at h
  simp only [Bool.and_eq_true, decide_eq_true_eq, List.all_eq_true] at h
  exact ⟨h.1, fun e he => h.2 e he⟩
theorem okL_good {l : List (List S36)} (h : okL l = true) : GoodL l ∧ (pairs l).length ≤ 1000000 := by
  unfold okL at h
  simp only [Bool.and_eq_true, decide_eq_true_eq, List.all_eq_true] at h
  exact ⟨⟨by unfold maxLen; omega, fun x hx => by have := okE_good (h.1.2 x hx); exact ⟨by unfold maxLen; omega, this.2⟩⟩, h.2⟩
def okW (ws : List Int) (agg : Int) : Bool := decide (ws.length ≤ maxLen) && (Lit.int .i64 agg).wf
theorem okW_good {ws : List Int} {agg : Int} (h : okW ws agg = true) : ws.length ≤ maxLen ∧ W64 agg := by
  unfold okW at h
  simp only [Bool.and_eq_true, decide_eq_true_eq] at h
  exact h
def algebra_Union.f (l : List (List S36)) (ws : List Int) (agg : Int) : Option (List S36 × Int) := if (okL l && okW ws agg) = true then some (madeF l ws agg 1) else none
def algebra_Inter.f (l : List (List S36)) (ws : List Int) (agg : Int) : Option (List S36 × Int) := if (okL l && okW ws agg) = true then some (madeF l ws agg (leastI l)) else none
def algebra_Diff.f (l : List (List S36)) : Option (List S36 × Int) := if okL l = true then some (diffF l) else none
theorem algebra_Union.calls (A0 : Option Addr) (c0 : Nat) (l0 : List (List S36)) (A1 : Option Addr) (c1 : Nat) (l1 : List Int) (a2 : Int) (r1 : List S36) (r2 : Int) (w : World) (hr0 : Kd.C (Kd.slice 36 k36) w A0 l0.length l0) (_hc0 : l0.length ≤ c0) (hr1 : Kd.C (Kd.int .i64) w A1 l1.length l1) (_hc1 : l1.length ≤ c1) {p q : Addr} (hG : G2 p q w) (h : algebra_Union.f l0 l1 a2 = some (r1, r2)) :
    Calls Tryd.prog 12 #[.slice A0 l0.length c0, .slice A1 l1.length c1, .int .i64 a2] w fun e w' => ∃ v0_ : Value, e = .returned (.tuple #[v0_, .int .i64 r2]) ∧ Kd.R k36 36 w' w.heap.size (fun _ => True) v0_ r1 ∧ Below w.heap.size w w' := by
  unfold algebra_Union.f at h
  split at h
  · rename_i hc
    simp only [Bool.and_eq_true] at hc
    have hh := Option.some.inj h
    obtain ⟨g1, g2⟩ := okL_good hc.1
    obtain ⟨g3, g4⟩ := okW_good hc.2
    refine (union_calls l0 g1 g2 l1 a2 g4 A0 c0 A1 c1 p q w hG hr0 hr1 g3).mono ?_
    rintro e w' ⟨v, rfl, hR, hb⟩
    rw [hh] at hR ⊢
    exact ⟨v, rfl, Kd.R_mono hR (fun _ _ => trivial), hb⟩
  · cases h
theorem algebra_Inter.calls (A0 : Option Addr) (c0 : Nat) (l0 : List (List S36)) (A1 : Option Addr) (c1 : Nat) (l1 : List Int) (a2 : Int) (r1 : List S36) (r2 : Int) (w : World) (hr0 : Kd.C (Kd.slice 36 k36) w A0 l0.length l0) (_hc0 : l0.length ≤ c0) (hr1 : Kd.C (Kd.int .i64) w A1 l1.length l1) (_hc1 : l1.length ≤ c1) {p q : Addr} (hG : G2 p q w) (h : algebra_Inter.f l0 l1 a2 = some (r1, r2)) :
    Calls Tryd.prog 14 #[.slice A0 l0.length c0, .slice A1 l1.length c1, .int .i64 a2] w fun e w' => ∃ v0_ : Value, e = .returned (.tuple #[v0_, .int .i64 r2]) ∧ Kd.R k36 36 w' w.heap.size (fun _ => True) v0_ r1 ∧ Below w.heap.size w w' := by
  unfold algebra_Inter.f at h
  split at h
  · rename_i hc
    simp only [Bool.and_eq_true] at hc
    have hh := Option.some.inj h
    obtain ⟨g1, g2⟩ := okL_good hc.1
    obtain ⟨g3, g4⟩ := okW_good hc.2
    refine (inter_calls l0 g1 g2 l1 a2 g4 A0 c0 A1 c1 p q w hG hr0 hr1 g3).mono ?_
    rintro e w' ⟨v, rfl, hR, hb⟩
    rw [hh] at hR ⊢
    exact ⟨v, rfl, Kd.R_mono hR (fun _ _ => trivial), hb⟩
  · cases h
theorem algebra_Diff.calls (A0 : Option Addr) (c0 : Nat) (l0 : List (List S36)) (r1 : List S36) (r2 : Int) (w : World) (hr0 : Kd.C (Kd.slice 36 k36) w A0 l0.length l0) (_hc0 : l0.length ≤ c0) {p q : Addr} (hG : G2 p q w) (h : algebra_Diff.f l0 = some (r1, r2)) :
    Calls Tryd.prog 16 #[.slice A0 l0.length c0] w fun e w' => ∃ v0_ : Value, e = .returned (.tuple #[v0_, .int .i64 r2]) ∧ Kd.R k36 36 w' w.heap.size (fun _ => True) v0_ r1 ∧ Below w.heap.size w w' := by
  unfold algebra_Diff.f at h
  split at h
  · rename_i hc
    have hh := Option.some.inj h
    obtain ⟨g1, g2⟩ := okL_good hc
    refine (diff_calls l0 g1 g2 A0 c0 p q w hG hr0).mono ?_
    rintro e w' ⟨v, rfl, hR, hb⟩
    rw [hh] at hR ⊢
    exact ⟨v, rfl, Kd.R_mono hR (fun _ _ => trivial), hb⟩
  · cases h
end Go.Proofs.YtidhbpfkiapcjaaDoor.P
end
/-! The first sets, cut short and sorted (Few), in plain words; what is a set's. Conditions: each theorem names its own. -/
section
namespace Go.Proofs.YtidhbpfkiapcjaaDoor.Pure
open Go Go.RowKit Go.Proofs.YtidhbpfkiapcjaaDoorW.PrintWords Go.Proofs.YtidhbpfkiapcjaaDoorW.PrintLast Go.Proofs.YtidhbpfkiapcjaaDoorW.PrintMore Go.Proofs.YtidhbpfkiapcjaaDoor.P

/-- An entry with its member cut short. -/
def cutE (e : S36) : S36 := ⟨e.f0.extract 0 (mn (e.f0.size : Int) 10).toNat, e.f1⟩
def fewS (s : Bool) (x : List S36) : List S36 := if s = true then sortT (tabT ((x.take 30).map cutE)) else (x.take 30).map cutE
def fewL (l : List (List S36)) (s : Bool) : List (List S36) := (l.take 6).map (fewS s)
theorem cutE_size (e : S36) : (cutE e).f0.size ≤ 10 := by
  unfold cutE mn
  rw [ByteArray.size_extract]
  split <;> omega
theorem cutL_size (x : List S36) : ∀ e ∈ (x.take 30).map cutE, e.f0.size ≤ 10 := by
  intro e he
  obtain ⟨e', _, rfl⟩ := List.mem_map.1 he
  exact cutE_size e'
theorem few_end (l : List (List S36)) (s : Bool) (acc : List (List S36)) (hacc : acc.length ≤ 6) (i : Nat) (hi : i < l.length) (hi6 : i < 6) (k : Nat) (hk : 200 ≤ k) (x7 : List S36) (h7 : x7 = (l[i].take 30).map cutE) :
    (if s = true then ((palioref13_Sort.f k x7).bind fun t229 => (if acc.length < 5864062014805 then (paliolaw13_Few.l0 k l s (acc ++ [t229]) (wrap64 ((i : Int) + 1))) else (none))) else (if acc.length < 5864062014805 then (paliolaw13_Few.l0 k l s (acc ++ [x7]) (wrap64 ((i : Int) + 1))) else (none))) = paliolaw13_Few.l0 k l s (acc ++ [fewS s l[i]]) ((i + 1 : Nat) : Int) := by
  have hx : x7.length ≤ 30 := by rw [h7, List.length_map, List.length_take]; omega
  have hs : ∀ e ∈ x7, e.f0.size ≤ 10 := by rw [h7]; exact cutL_size _
  have ha : acc.length < 5864062014805 := by omega
  rw [wrap_succ i (by omega)]
  cases s
  · rw [if_neg (by simp), if_pos ha]
    unfold fewS
    rw [if_neg (by simp), h7]
  · rw [if_pos rfl, sort_ref x7 (by omega) hs k (by omega), Option.bind_some, if_pos ha]
    unfold fewS
    rw [if_pos rfl, h7]
theorem few_l1 (l : List (List S36)) (s : Bool) (acc : List (List S36)) (hacc : acc.length ≤ 6) (i : Nat) (hi : i < l.length) (hi6 : i < 6) : ∀ (d j k : Nat), j ≤ min l[i].length 30 → min l[i].length 30 - j = d → d + 300 ≤ k →
    paliolaw13_Few.l1 k l s acc i ((l[i].take j).map cutE) j = paliolaw13_Few.l0 (k - (d + 1)) l s (acc ++ [fewS s l[i]]) ((i + 1 : Nat) : Int)
  | 0, j, k, hj, hd, hk => by
    obtain ⟨k, rfl⟩ : ∃ n, k = n + 1 := ⟨k - 1, by omega⟩
    have he := few_end l s acc hacc i hi hi6 k (by omega) ((l[i].take j).map cutE) (by
      rcases Nat.lt_or_ge l[i].length 30 with h | h
      · rw [List.take_of_length_le (by omega), List.take_of_length_le (by omega)]
      · rw [show j = 30 by omega])
    unfold paliolaw13_Few.l1
    rw [if_pos (by omega), if_pos (by omega), rd3_get hi]
    by_cases h : j < l[i].length
    · rw [if_pos (by omega), if_neg (by omega)]
      exact he
    · rw [if_neg (by omega)]
      exact he
  | d + 1, j, k, hj, hd, hk => by
    obtain ⟨k, rfl⟩ : ∃ n, k = n + 1 := ⟨k - 1, by omega⟩
    have hjl : j < l[i].length := by omega
    have hj30 : j < 30 := by omega
    have hlen : ((l[i].take j).map cutE).length < 5864062014805 := by rw [List.length_map, List.length_take]; omega
    have hm1 : 0 ≤ mn (l[i][j].f0.size : Int) 10 := by unfold mn; split <;> omega
    have hm2 : mn (l[i][j].f0.size : Int) 10 ≤ (l[i][j].f0.size : Int) := by unfold mn; split <;> omega
    have ih := few_l1 l s acc hacc i hi hi6 d (j + 1) k (by omega) (by omega) (by omega)
    rw [List.take_succ_eq_append_getElem hjl, List.map_append] at ih
    unfold paliolaw13_Few.l1
    rw [if_pos (by omega), if_pos (by omega), rd3_get hi, if_pos (by omega), if_pos (by omega), if_pos (by omega), rd36_get hjl, if_pos hm1, if_pos hm2, if_pos hlen, wrap_succ j (by omega)]
    rw [show k + 1 - (d + 1 + 1) = k - (d + 1) by omega]
    exact ih
theorem few_l0 (l : List (List S36)) (s : Bool) : ∀ (d i k : Nat), i ≤ min l.length 6 → min l.length 6 - i = d → d * 40 + 400 ≤ k → paliolaw13_Few.l0 k l s ((l.take i).map (fewS s)) i = some (fewL l s)
  | 0, i, k, hi, hd, hk => by
    obtain ⟨k, rfl⟩ : ∃ n, k = n + 1 + 1 := ⟨k - 2, by omega⟩
    have he : (l.take i).map (fewS s) = fewL l s := by
      unfold fewL
      rcases Nat.lt_or_ge l.length 6 with h | h
      · rw [List.take_of_length_le (by omega), List.take_of_length_le (by omega)]
      · rw [show i = 6 by omega]
    unfold paliolaw13_Few.l0
    by_cases h : i < l.length
    · rw [if_pos (by omega), decide_eq_false (by omega)]
      unfold paliolaw13_Few.j1
      rw [if_neg (by simp), he]
    · rw [if_neg (by omega)]
      unfold paliolaw13_Few.j1
      rw [if_neg (by simp), he]
  | d + 1, i, k, hi, hd, hk => by
    obtain ⟨k, rfl⟩ : ∃ n, k = n + 1 + 1 := ⟨k - 2, by omega⟩
    have hil : i < l.length := by omega
    have hi6 : i < 6 := by omega
    have hl1 := few_l1 l s ((l.take i).map (fewS s)) (by rw [List.length_map, List.length_take]; omega) i hil hi6 (min l[i].length 30) 0 k (by omega) (by omega) (by omega)
    have ih := few_l0 l s d (i + 1) (k - (min l[i].length 30 + 1)) (by omega) (by omega) (by omega)
    rw [List.take_succ_eq_append_getElem hil, List.map_append, List.map_singleton] at ih
    unfold paliolaw13_Few.l0
    rw [if_pos (by omega), decide_eq_true (by omega)]
    unfold paliolaw13_Few.j1
    rw [if_pos rfl]
    exact hl1.trans ih
theorem few_ref (l : List (List S36)) (s : Bool) (k : Nat) (hk : 700 ≤ k) : paliolaw13_Few.f k l s = some (fewL l s) := few_l0 l s (min l.length 6) 0 k (by omega) (by omega) (by omega)
/-- What Few leaves. -/
structure Small (l : List (List S36)) : Prop where
  len : l.length ≤ 6
  each : ∀ x ∈ l, x.length ≤ 30 ∧ ∀ e ∈ x, e.f0.size ≤ 10 ∧ W64 e.f1
theorem few_small (l : List (List S36)) (s : Bool) (h : ∀ x ∈ l, ∀ e ∈ x, W64 e.f1) : Small (fewL l s) where
  len := by unfold fewL; rw [List.length_map, List.length_take]; omega
  each := by
    intro x hx
    unfold fewL at hx
    obtain ⟨y, hy, rfl⟩ := List.mem_map.1 hx
    have hy := List.mem_of_mem_take hy
    have hc : ∀ e ∈ (y.take 30).map cutE, e.f0.size ≤ 10 ∧ W64 e.f1 := by
      intro e he
      obtain ⟨e', he', rfl⟩ := List.mem_map.1 he
      exact ⟨cutE_size e', h y hy e' (List.mem_of_mem_take he')⟩
    have hl : ((y.take 30).map cutE).length ≤ 30 := by rw [List.length_map, List.length_take]; omega
    unfold fewS
    split
    · refine ⟨?_, ?_⟩
      · rw [sortT_len]
        have := tabT_len ((y.take 30).map cutE) []
        unfold tabT
        rw [List.length_nil] at this
        omega
      · intro e he
        obtain ⟨e', he', h2⟩ := mem_tabT _ (mem_sortT.1 he)
        injection h2 with h1 h2
        rw [h1, h2]
        exact hc e' he'
    · exact ⟨hl, hc⟩
theorem pairsF_len : ∀ (l : List (List S36)) (i : Nat), (∀ x ∈ l, x.length ≤ 30) → (pairsF i l).length ≤ 30 * l.length
  | [], _, _ => by simp [pairsF]
  | x :: r, i, h => by
    have h1 := h x List.mem_cons_self
    have h2 := pairsF_len r (i + 1) (fun y hy => h y (List.mem_cons_of_mem _ hy))
    unfold pairsF
    rw [List.length_append, List.length_map, List.length_cons]
    omega
theorem okE_small {x : List S36} (h : x.length ≤ 30 ∧ ∀ e ∈ x, e.f0.size ≤ 10 ∧ W64 e.f1) : okE x = true := by
  unfold okE
  simp only [Bool.and_eq_true, decide_eq_true_eq, List.all_eq_true]
  exact ⟨by omega, fun e he => ⟨by have := (h.2 e he).1; unfold maxLen; omega, (h.2 e he).2⟩⟩
theorem okL_small {l : List (List S36)} (h : Small l) : okL l = true := by
  unfold okL
  simp only [Bool.and_eq_true, decide_eq_true_eq, List.all_eq_true]
  refine ⟨⟨by have := h.len; omega, fun x hx => okE_small (h.each x hx)⟩, ?_⟩
  have := pairsF_len l 0 (fun x hx => (h.each x hx).1)
  have := h.len
  unfold pairs
  omega
/-! What is a set's. -/
theorem tabT_perm {l : List S36} (h : ApartE l) : (tabT l).Perm (l.map (fun e => (e.f0, e.f1))) := by
  have : ∀ (l : List S36) (T : List (ByteArray × Int)), ApartE l → (∀ e ∈ l, ∀ p ∈ T, p.1 ≠ e.f0) → (l.foldl (fun T e => putT T e.f0 e.f1) T).Perm (T ++ l.map (fun e => (e.f0, e.f1))) := by
    intro l
    induction l with
    | nil => intro T _ _; simp
    | cons x r ih =>
      intro T ha hn
      have h1 := List.pairwise_cons.1 ha
      rw [List.foldl_cons]
      have hd : delT T x.f0 = T := by
        unfold delT
        rw [List.filter_eq_self]
        intro p hp
        have := hn x List.mem_cons_self p hp
        simp [this]
      have hput : putT T x.f0 x.f1 = (x.f0, x.f1) :: T := by
        unfold delT at hd
        unfold putT
        rw [hd]
      rw [hput]
      refine (ih _ h1.2 ?_).trans ?_
      · intro e he p hp
        rcases List.mem_cons.1 hp with rfl | hp
        · exact h1.1 e he
        · exact hn e (List.mem_cons_of_mem _ he) p hp
      · rw [List.map_cons, List.cons_append]
        exact List.perm_middle.symm
  have := this l [] h (fun _ _ _ hp => by cases hp)
  exact this
end Go.Proofs.YtidhbpfkiapcjaaDoor.Pure
end
/-! The three known cases, as a Lean function. -/
section
namespace Go.Proofs.YtidhbpfkiapcjaaDoor.P
open Go.RowKit Go.Proofs.YtidhbpfkiapcjaaDoorW.PrintWords Go.Proofs.YtidhbpfkiapcjaaDoorW.PrintLast Go.Proofs.YtidhbpfkiapcjaaDoorW.PrintMore
attribute [local go_sem] max2_int min2_int max_two min_two max_three min_three max_four min_four   -- for this text's walks alone
set_option linter.unusedVariables false
set_option linter.unusedSimpArgs false

def paliolaw13_shown.f (k : Nat)  : Option (Bool) := (some (([(([(⟨(⟨#[97]⟩ : ByteArray), 1⟩ : S36), (⟨(⟨#[98]⟩ : ByteArray), 2⟩ : S36)] : List (S36))), (([(⟨(⟨#[98]⟩ : ByteArray), 3⟩ : S36)] : List (S36)))] : List (List (S36))) : List (List (S36)))).bind fun y285 => ((algebra_Union.f y285 (([1, 10] : List Int)) 1).bind fun bt291 => ((algebra_Inter.f y285 (([1, 1] : List Int)) 2).bind fun bt298 => ((algebra_Diff.f y285).bind fun bt302 => ((algebra_Diff.f ([] : List (List (S36)))).bind fun bt306 => (if bt291.2 = 0 then (if bt298.2 = 0 then (if bt302.2 = 0 then (if bt306.2 = 120 then ((palioref05_Same.f k bt291.1 (([(⟨(⟨#[97]⟩ : ByteArray), 1⟩ : S36), (⟨(⟨#[98]⟩ : ByteArray), 32⟩ : S36)] : List (S36)))).bind fun t313 => (if t313 = true then ((palioref05_Same.f k bt298.1 (([(⟨(⟨#[98]⟩ : ByteArray), 2⟩ : S36)] : List (S36)))).bind fun t317 => (if t317 = true then ((palioref05_Same.f k bt302.1 (([(⟨(⟨#[97]⟩ : ByteArray), 1⟩ : S36)] : List (S36)))).bind fun t321 => (some t321)) else (some false))) else (some false))) else (some false)) else (some false)) else (some false)) else (some false))))))
theorem paliolaw13_shown.mono : ∀ k, LeO (paliolaw13_shown.f k ) (paliolaw13_shown.f (k + 1) ) := by
  intro  k
  unfold paliolaw13_shown.f
  repeat' first
      | (with_reducible exact palioref05_Same.mono _ _ _)
      | (with_reducible exact LeO.refl _)
      | (with_reducible exact LeO.none _)
      | (with_reducible refine LeO.ite ?_ ?_)
      | (with_reducible refine LeO.bind ?_ (fun _ => ?_))
      | exact palioref05_Same.mono _ _ _
      | exact LeO.none _
      | refine LeO.ite ?_ ?_
      | refine LeO.bind ?_ (fun _ => ?_)
end Go.Proofs.YtidhbpfkiapcjaaDoor.P
end
/-! What the law's three known cases come to. -/
section
namespace Go.Proofs.YtidhbpfkiapcjaaDoor.Pure
open Go Go.RowKit Go.Proofs.YtidhbpfkiapcjaaDoorW.PrintWords Go.Proofs.YtidhbpfkiapcjaaDoorW.PrintLast Go.Proofs.YtidhbpfkiapcjaaDoorW.PrintMore Go.Proofs.YtidhbpfkiapcjaaDoor.P

theorem madeF_some {l : List (List S36)} {ws : List Int} {agg least : Int} {T : List (ByteArray × Int)} (h1 : setsB l = true) (h2 : (wayN agg).isSome = true) (h3 : ws.length = l.length) (h4 : foldM (cntT (pairs l)) least ws agg [] (pairs l) = some T) : madeF l ws agg least = (sortT T, 0) := by
  unfold madeF
  rw [if_pos ⟨h1, h2, h3⟩, h4]
def sA : ByteArray := ⟨#[97]⟩
def sB : ByteArray := ⟨#[98]⟩
def yS : List (List S36) := [[⟨sA, 1⟩, ⟨sB, 2⟩], [⟨sB, 3⟩]]
theorem yS_ok : okL yS = true := by decide +kernel
theorem yS_sets : setsB yS = true := by decide +kernel
theorem yS_foldU : foldM (cntT (pairs yS)) 1 [1, 10] 1 [] (pairs yS) = some [(sB, 32), (sA, 1)] := by decide +kernel
theorem yS_foldI : foldM (cntT (pairs yS)) (leastI yS) [1, 1] 2 [] (pairs yS) = some [(sB, 2)] := by decide +kernel
theorem yS_left : leftT yS = [(sA, 1)] := by decide +kernel
theorem hU : algebra_Union.f yS [1, 10] 1 = some ([⟨sA, 1⟩, ⟨sB, 32⟩], 0) := by
  unfold algebra_Union.f
  rw [if_pos (by rw [yS_ok]; rfl), madeF_some yS_sets rfl rfl yS_foldU]
  rw [← sorted_eq (l := [⟨sA, 1⟩, ⟨sB, 32⟩]) (by decide +kernel) (List.Perm.swap _ _ _)]
theorem hI : algebra_Inter.f yS [1, 1] 2 = some ([⟨sB, 2⟩], 0) := by
  unfold algebra_Inter.f
  rw [if_pos (by rw [yS_ok]; rfl), madeF_some yS_sets rfl rfl yS_foldI]
  rw [← sorted_eq (l := [⟨sB, 2⟩]) (by decide +kernel) (List.Perm.refl _)]
theorem hD : algebra_Diff.f yS = some ([⟨sA, 1⟩], 0) := by
  unfold algebra_Diff.f diffF
  rw [if_pos yS_ok, if_pos yS_sets, yS_left]
  rw [← sorted_eq (l := [⟨sA, 1⟩]) (by decide +kernel) (List.Perm.refl _)]
theorem hN : algebra_Diff.f [] = some ([], 120) := by rfl
theorem shown_true (k : Nat) (hk : 10 ≤ k) : paliolaw13_shown.f k = some true := by
  unfold paliolaw13_shown.f
  rw [Option.bind_some]
  rw [show algebra_Union.f [[(⟨⟨#[97]⟩, 1⟩ : S36), ⟨⟨#[98]⟩, 2⟩], [⟨⟨#[98]⟩, 3⟩]] [1, 10] 1 = _ from hU, Option.bind_some]
  rw [show algebra_Inter.f [[(⟨⟨#[97]⟩, 1⟩ : S36), ⟨⟨#[98]⟩, 2⟩], [⟨⟨#[98]⟩, 3⟩]] [1, 1] 2 = _ from hI, Option.bind_some]
  rw [show algebra_Diff.f [[(⟨⟨#[97]⟩, 1⟩ : S36), ⟨⟨#[98]⟩, 2⟩], [⟨⟨#[98]⟩, 3⟩]] = _ from hD, Option.bind_some, hN, Option.bind_some]
  rw [if_pos rfl, if_pos rfl, if_pos rfl, if_pos rfl]
  dsimp only
  rw [same_ref _ _ (by decide) k (by show 2 < k; omega)]
  rw [same_ref [⟨sB, 2⟩] _ (by decide) k (by show 1 < k; omega)]
  rw [same_ref [⟨sA, 1⟩] _ (by decide) k (by show 1 < k; omega)]
  decide +kernel
end Go.Proofs.YtidhbpfkiapcjaaDoor.Pure
end
/-! Small sets stay as they are; how long what is made of them is. Conditions: each theorem names its own. -/
section
namespace Go.Proofs.YtidhbpfkiapcjaaDoor.Pure
open Go Go.RowKit Go.Proofs.YtidhbpfkiapcjaaDoorW.PrintWords Go.Proofs.YtidhbpfkiapcjaaDoorW.PrintLast Go.Proofs.YtidhbpfkiapcjaaDoorW.PrintMore Go.Proofs.YtidhbpfkiapcjaaDoor.P

theorem pairs_small {l : List (List S36)} (h : Small l) : (pairs l).length ≤ 180 := by
  have := pairsF_len l 0 (fun x hx => (h.each x hx).1)
  have := h.len
  unfold pairs
  omega
theorem madeF_len {l : List (List S36)} (h : Small l) (ws : List Int) (agg least : Int) : (madeF l ws agg least).1.length ≤ 1000 := by
  unfold madeF
  split
  · split
    · exact Nat.zero_le _
    · rename_i T hT
      rw [sortT_len]
      have := foldM_len _ _ _ _ _ _ _ hT
      have := pairs_small h
      rw [List.length_nil] at *
      omega
  · exact Nat.zero_le _
theorem diffF_len {l : List (List S36)} (h : Small l) : (diffF l).1.length ≤ 1000 := by
  unfold diffF
  split
  · rw [sortT_len]
    unfold leftT
    refine Nat.le_trans (foldD_len _ _) ?_
    have h1 := tabT_len (l.getD 0 []) []
    unfold tabT
    rw [List.length_nil] at h1
    have h2 : (l.getD 0 []).length ≤ 30 := by
      rw [List.getD_eq_getElem?_getD]
      cases e : l[0]? with
      | none => exact Nat.zero_le _
      | some x => exact (h.each x (List.mem_of_getElem? e)).1
    omega
  · exact Nat.zero_le _
end Go.Proofs.YtidhbpfkiapcjaaDoor.Pure
end
