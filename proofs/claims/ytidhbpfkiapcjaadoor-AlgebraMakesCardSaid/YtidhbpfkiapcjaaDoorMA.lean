/- A map of strings to numbers that the call itself has made, as a list of its entries in whatever order: made, stored to, looked up, deleted from, counted. The laws of AM at a map's operations, inside a round of a range over a function. A range over a map of texts to numbers, as a list of entries that are still to come. -/
import Derived.Maps.RangeWalk
import Derived.Maps.OwnIn
/-! A map of strings to numbers that the call itself has made, as a list of its entries in whatever order: made, stored to, looked up, deleted from, counted. -/
section
namespace Go.Proofs.YtidhbpfkiapcjaaDoor.P
open Go Go.Maps

/-- A text as a key, and an entry as the reader reads it. -/
def keyL (m : ByteArray) : Lit := .string m.data.toList
def entL (p : ByteArray × Int) : Lit × DataW Unit := (keyL p.1, .lit (.int .i64 p.2))
theorem keyL_inj {a b : ByteArray} (h : keyL a = keyL b) : a = b := by
  unfold keyL at h
  injection h with h
  cases a; cases b
  simp only [ByteArray.mk.injEq]
  exact Array.toList_inj.1 h
theorem same_key (a b : ByteArray) : (keyL a).sameKey (keyL b) = decide (a = b) := by
  unfold keyL Lit.sameKey
  by_cases h : a = b
  · subst h; simp
  · rw [decide_eq_false h]
    rw [beq_eq_false_iff_ne]
    intro h2
    exact h (keyL_inj (by unfold keyL; rw [h2]))
/-- What stands at a key. -/
def getT (T : List (ByteArray × Int)) (m : ByteArray) : Option Int := (T.find? (fun p => decide (p.1 = m))).map (·.2)
/-- The table with a key set. -/
def putT (T : List (ByteArray × Int)) (m : ByteArray) (v : Int) : List (ByteArray × Int) := (m, v) :: T.filter (fun p => !decide (p.1 = m))
def delT (T : List (ByteArray × Int)) (m : ByteArray) : List (ByteArray × Int) := T.filter (fun p => !decide (p.1 = m))
theorem at_ent (T : List (ByteArray × Int)) (m : ByteArray) (z : DataW Unit) : (DataW.map (T.map entL)).atKey (keyL m) z = match getT T m with | some v => .lit (.int .i64 v) | none => z := by
  unfold DataW.atKey getT
  induction T with
  | nil => rfl
  | cons p T ih =>
    simp only [List.map_cons, List.find?_cons]
    rw [show (entL p).1.sameKey (keyL m) = decide (p.1 = m) from same_key _ _]
    by_cases h : p.1 = m
    · simp [h, entL]
    · simpa [h] using ih
theorem has_ent (T : List (ByteArray × Int)) (m : ByteArray) : has (DataW.map (T.map entL)) (keyL m) = (getT T m).isSome := by
  unfold has getT
  induction T with
  | nil => rfl
  | cons p T ih =>
    simp only [List.map_cons, List.any_cons, List.find?_cons]
    rw [show (entL p).1.sameKey (keyL m) = decide (p.1 = m) from same_key _ _]
    by_cases h : p.1 = m
    · simp [h]
    · simpa [h] using ih
theorem filter_ent (T : List (ByteArray × Int)) (m : ByteArray) : (T.map entL).filter (ChangeMaps.notKey (keyL m)) = (delT T m).map entL := by
  unfold delT
  induction T with
  | nil => rfl
  | cons p T ih =>
    have e : ChangeMaps.notKey (keyL m) (entL p) = !decide (p.1 = m) := by
      unfold ChangeMaps.notKey
      rw [show (entL p).1.sameKey (keyL m) = decide (p.1 = m) from same_key _ _]
    simp only [List.map_cons, List.filter_cons, e]
    by_cases h : p.1 = m
    · simpa [h] using ih
    · simpa [h] using ih
theorem insert_ent (m : ByteArray) (v : Int) : ∀ T : List (ByteArray × Int), ∃ T' : List (ByteArray × Int), T'.Perm ((m, v) :: T) ∧ DataW.insert (keyL m, .lit (.int .i64 v)) (T.map entL) = T'.map entL
  | [] => ⟨[(m, v)], List.Perm.refl _, rfl⟩
  | p :: T => by
    simp only [List.map_cons, DataW.insert]
    split
    · exact ⟨(m, v) :: p :: T, List.Perm.refl _, rfl⟩
    · obtain ⟨T', h1, h2⟩ := insert_ent m v T
      exact ⟨p :: T', (h1.cons p).trans (List.Perm.swap _ _ _), by rw [h2]; rfl⟩
/-- No key stands twice. -/
def Apart (T : List (ByteArray × Int)) : Prop := T.Pairwise (fun p q => p.1 ≠ q.1)
theorem Apart.perm {T T' : List (ByteArray × Int)} (h : Apart T) (hp : T'.Perm T) : Apart T' := (hp.pairwise_iff (fun h => Ne.symm h)).2 h
theorem Apart.del {T : List (ByteArray × Int)} (h : Apart T) (m : ByteArray) : Apart (delT T m) := h.filter _
theorem mem_del {T : List (ByteArray × Int)} {m : ByteArray} {p : ByteArray × Int} : p ∈ delT T m ↔ p ∈ T ∧ p.1 ≠ m := by
  unfold delT
  rw [List.mem_filter]
  simp
theorem Apart.put {T : List (ByteArray × Int)} (h : Apart T) (m : ByteArray) (v : Int) : Apart (putT T m v) :=
  List.Pairwise.cons (fun _ hp => Ne.symm (mem_del.1 hp).2) (h.del m)
theorem Apart.get {T : List (ByteArray × Int)} (h : Apart T) (m : ByteArray) (v : Int) : getT T m = some v ↔ (m, v) ∈ T := by
  unfold getT
  induction T with
  | nil => simp
  | cons p T ih =>
    have h1 := List.pairwise_cons.1 h
    rw [List.find?_cons]
    by_cases hp : p.1 = m
    · simp only [hp, decide_true, Option.map_some, Option.some.injEq, List.mem_cons]
      constructor
      · intro e; left; rw [← hp, ← e]
      · rintro (e | e)
        · rw [← e]
        · exact absurd hp (h1.1 _ e)
    · simp only [hp, decide_false, List.mem_cons]
      rw [ih h1.2]
      constructor
      · exact .inr
      · rintro (e | e)
        · exact absurd (by rw [← e]) hp
        · exact e
theorem get_none {T : List (ByteArray × Int)} (m : ByteArray) : getT T m = none ↔ ∀ p ∈ T, p.1 ≠ m := by
  unfold getT
  simp
theorem Apart.get_perm {T T' : List (ByteArray × Int)} (h : Apart T) (hp : T'.Perm T) (m : ByteArray) : getT T' m = getT T m := by
  cases e : getT T m with
  | none => rw [get_none] at e ⊢; exact fun p hm => e p (hp.mem_iff.1 hm)
  | some v => rw [(h.perm hp).get]; rw [h.get] at e; exact hp.mem_iff.2 e
theorem del_perm {T T' : List (ByteArray × Int)} (hp : T'.Perm T) (m : ByteArray) : (delT T' m).Perm (delT T m) := hp.filter _

/-- Block b is a map of texts to numbers that holds just T, in whatever order. -/
def OwnsT (P : Program) (k e : TypeId) (w : World) (b : Nat) (T : List (ByteArray × Int)) : Prop :=
  Apart T ∧ ∃ T0 : List (ByteArray × Int), T0.Perm T ∧ w.ownsMap P k (plainElem P e) b T.length (DataW.map (T0.map entL))
variable {P : Program} {k e : TypeId} {w : World} {b : Nat} {T : List (ByteArray × Int)}
theorem owns_resize {H : Type} {R : Value → Option (DataW H × List MemPlace)} {n : Nat} {L : List (Lit × DataW H)} (h : w.ownsMap P k R b n (.map L)) : w.ownsMap P k R b L.length (.map L) := by
  obtain ⟨es, clock, hb, F, hs, hD⟩ := h
  refine ⟨es, clock, hb, F, ?_, hD⟩
  injection hD with hD
  rw [hD, length_sorted]
  simp
theorem OwnsT.lt (h : OwnsT P k e w b T) : b < w.heap.size := by obtain ⟨_, T0, _, h1⟩ := h; exact h1.lt
theorem OwnsT.kept {w' : World} {row : Option Nat} (h : OwnsT P k e w b T) (hg : w.grownBy w' row) (hne : some b ≠ row) : OwnsT P k e w' b T := by
  obtain ⟨ha, T0, h0, h1⟩ := h
  exact ⟨ha, T0, h0, h1.kept hg hne⟩
theorem OwnsT.made (w : World) (P : Program) (k e : TypeId) : OwnsT P k e (w.alloc (.map #[] 0)) w.heap.size [] :=
  ⟨List.Pairwise.nil, [], List.Perm.refl _, w.ownsMap_made P k _⟩
theorem OwnsT.update {t : TypeId} (h : OwnsT P k e w b T) (hk : P.underlying k = some .string) (he : P.underlying e = some (.int .i64)) (ht : P.underlying t = some (.map k e)) (hn : T.length < maxLen) (m : ByteArray) (hm : m.size ≤ maxLen) (v : Int) (hv : (Lit.int .i64 v).wf = true) :
    ∃ w', (Instr.mapUpdate t (.map (some b)) (.string m) (.int .i64 v)).run P w = .ok () w' ∧ OwnsT P k e w' b (putT T m v) ∧ w.grownBy w' (some b) := by
  obtain ⟨ha, T0, h0, h1⟩ := h
  obtain ⟨w', r1, r2, r3⟩ := h1.update (string_keyed hk) ht hn (WideMaps.keyOf_string_mk hk hm) (plainElem_int he hv)
  refine ⟨w', r1, ⟨ha.put m v, ?_⟩, r3⟩
  rw [DataW.put_eq] at r2
  unfold ChangeMaps.putKey at r2
  rw [show (Lit.string m.data.toList) = keyL m from rfl, filter_ent] at r2
  obtain ⟨T', p1, p2⟩ := insert_ent m v (delT T0 m)
  rw [p2] at r2
  have p3 : T'.Perm (putT T m v) := p1.trans ((del_perm h0 m).cons _)
  refine ⟨T', p3, ?_⟩
  have := owns_resize r2
  rw [List.length_map, p3.length_eq] at this
  exact this

theorem get_or {T T0 : List (ByteArray × Int)} (ha : Apart T) (hp : T0.Perm T) (m : ByteArray) {c : Int} (h : (DataW.map (T0.map entL)).atKey (keyL m) (.lit (.int .i64 0)) = .lit (.int .i64 c)) : c = (getT T m).getD 0 := by
  rw [at_ent, ha.get_perm hp] at h
  cases e : getT T m with
  | none => rw [e] at h; injection h with h; injection h with _ h; exact h.symm
  | some v => rw [e] at h; injection h with h; injection h with _ h; exact h.symm
section
variable (w : World) {ops : Array Oper} {rest : List Oper} {o : Oper} {a : Act} {Q : Exit → Act → World → Prop}
/-- 'm[k] = v' at the operation. -/
theorem wpList_put_own (hg : o.guard = none) (m x v : Operand) (t : TypeId) (hop : o.op = Op.mapUpdate t m x v) (k e : TypeId) (hk : P.underlying k = some .string) (he : P.underlying e = some (.int .i64)) (ht : P.underlying t = some (.map k e)) (b : Nat) (T : List (ByteArray × Int))
    (hm : a.eval m = .map (some b)) (hown : OwnsT P k e w b T) (hn : T.length < maxLen) (key : ByteArray) (val : Int) (hx : a.eval x = .string key) (hv : a.eval v = .int .i64 val) (hks : key.size ≤ maxLen) (hvw : (Lit.int .i64 val).wf = true)
    (hK : ∀ w', OwnsT P k e w' b (putT T key val) → w.grownBy w' (some b) → wpList P ops Q rest (a.put o.dst undef) w') :
    wpList P ops Q (o :: rest) a w := by
  refine wpList_plain hg fun K' hK' => ?_
  obtain ⟨w', hrun, r1, r2⟩ := hown.update hk he ht hn key hks val hvw
  unfold Oper.wp
  simp [execOp, hop, hm, hx, hv, hrun, Result.andThen]
  exact hK' _ _ (hK w' r1 r2)
/-- 'len(m)' at the operation. -/
theorem wpList_len_ownT (hg : o.guard = none) (m : Operand) (t : TypeId) (hop : o.op = Op.call { callee := Callee.builtin Builtin.len, args := #[m], argTypes := #[t] }) (k e : TypeId) (ht : P.underlying t = some (.map k e)) (b : Nat) (T : List (ByteArray × Int)) (hm : a.eval m = .map (some b)) (hown : OwnsT P k e w b T)
    (hK : wpList P ops Q rest (a.put o.dst (.int .i64 T.length)) w) :
    wpList P ops Q (o :: rest) a w := by
  obtain ⟨ha, T0, h0, h1⟩ := hown
  refine wpList_len_own w hg m t hop k e ht (plainElem P e) b _ _ hm h1 ?_
  rw [size_eq, List.length_map, h0.length_eq]
  exact hK
end
end Go.Proofs.YtidhbpfkiapcjaaDoor.P
end
/-! The laws of AM at a map's operations, inside a round of a range over a function. -/
section
namespace Go.Proofs.YtidhbpfkiapcjaaDoor.P
open Go Go.Maps
section
variable {F : Fence} {nF : Nat} {P : Program} (w : World) {ops : Array Oper} {rest : List Oper} {o : Oper} {a : Act} {Q : Exit → Act → World → Prop}
/-- 'm[k] = v' at the operation. -/
theorem wpListIn_put_own (hg : o.guard = none) (m x v : Operand) (t : TypeId) (hop : o.op = Op.mapUpdate t m x v) (k e : TypeId) (hk : P.underlying k = some .string) (he : P.underlying e = some (.int .i64)) (ht : P.underlying t = some (.map k e)) (b : Nat) (T : List (ByteArray × Int))
    (hm : a.eval m = .map (some b)) (hown : OwnsT P k e w b T) (hn : T.length < maxLen) (key : ByteArray) (val : Int) (hx : a.eval x = .string key) (hv : a.eval v = .int .i64 val) (hks : key.size ≤ maxLen) (hvw : (Lit.int .i64 val).wf = true)
    (hK : ∀ w', OwnsT P k e w' b (putT T key val) → w.grownBy w' (some b) → wpListIn F nF P ops Q rest (a.put o.dst undef) w') :
    wpListIn F nF P ops Q (o :: rest) a w := by
  refine wpListIn_plain hg fun K' hK' => ?_
  obtain ⟨w', hrun, r1, r2⟩ := hown.update hk he ht hn key hks val hvw
  unfold Oper.wpIn
  refine ⟨by simp [Oper.about, hop], ?_⟩
  rw [Oper.semAt_plain F _ _ (by rw [hop]; intro c hc'; cases hc')]
  simp [execOp, hop, hm, hx, hv, hrun, Result.andThen]
  exact hK' _ _ (hK w' r1 r2)
/-- 'm[k]' at the operation. -/
theorem wpListIn_get_own (hg : o.guard = none) (m x : Operand) (t : TypeId) (hop : o.op = Op.lookup t m x false) (k e : TypeId) (hk : P.underlying k = some .string) (he : P.underlying e = some (.int .i64)) (ht : P.underlying t = some (.map k e)) (hz : (zeroValue e).run P w = .ok (.int .i64 0) w) (b : Nat) (T : List (ByteArray × Int))
    (hm : a.eval m = .map (some b)) (hown : OwnsT P k e w b T) (key : ByteArray) (hx : a.eval x = .string key) (hks : key.size ≤ maxLen)
    (hK : wpListIn F nF P ops Q rest (a.put o.dst (.int .i64 ((getT T key).getD 0))) w) :
    wpListIn F nF P ops Q (o :: rest) a w := by
  obtain ⟨ha, T0, h0, h1⟩ := hown
  refine wpListIn_lookup_own_int w hg m x t hop k e .i64 (string_keyed hk) ht he hz b _ _ hm h1 _ (keyL key) hx (WideMaps.keyOf_string_mk hk hks) ?_
  intro c hat _
  rw [get_or ha h0 key hat]
  exact hK
/-- 'v, ok := m[k]' at the operation. -/
theorem wpListIn_get_own_ok (hg : o.guard = none) (m x : Operand) (t : TypeId) (hop : o.op = Op.lookup t m x true) (k e : TypeId) (hk : P.underlying k = some .string) (he : P.underlying e = some (.int .i64)) (ht : P.underlying t = some (.map k e)) (hz : (zeroValue e).run P w = .ok (.int .i64 0) w) (b : Nat) (T : List (ByteArray × Int))
    (hm : a.eval m = .map (some b)) (hown : OwnsT P k e w b T) (key : ByteArray) (hx : a.eval x = .string key) (hks : key.size ≤ maxLen)
    (hK : wpListIn F nF P ops Q rest (a.put o.dst (.tuple #[.int .i64 ((getT T key).getD 0), .bool (getT T key).isSome])) w) :
    wpListIn F nF P ops Q (o :: rest) a w := by
  obtain ⟨ha, T0, h0, h1⟩ := hown
  refine wpListIn_lookup_own_ok_int w hg m x t hop k e .i64 (string_keyed hk) ht he hz b _ _ hm h1 _ (keyL key) hx (WideMaps.keyOf_string_mk hk hks) ?_
  intro c hat _
  rw [get_or ha h0 key hat, has_ent, ha.get_perm h0]
  exact hK
/-- 'delete(m, k)' at the operation. -/
theorem wpListIn_del_own (hg : o.guard = none) (m x : Operand) (t k : TypeId) (hop : o.op = Op.call { callee := Callee.builtin Builtin.delete, args := #[m, x], argTypes := #[t, k] }) (e : TypeId) (hk : P.underlying k = some .string) (ht : P.underlying t = some (.map k e)) (b : Nat) (T : List (ByteArray × Int))
    (hm : a.eval m = .map (some b)) (hown : OwnsT P k e w b T) (key : ByteArray) (hx : a.eval x = .string key) (hks : key.size ≤ maxLen)
    (hK : ∀ w', OwnsT P k e w' b (delT T key) → w.mapTurned w' b → wpListIn F nF P ops Q rest (a.put o.dst (.tuple #[])) w') :
    wpListIn F nF P ops Q (o :: rest) a w := by
  obtain ⟨ha, T0, h0, h1⟩ := hown
  refine wpListIn_delete_own w hg m x t k hop e (string_keyed hk) ht (plainElem P e) b _ _ hm h1 _ (keyL key) hx (WideMaps.keyOf_string_mk hk hks) ?_
  intro w' r1 r2
  refine hK w' ⟨ha.del key, delT T0 key, del_perm h0 key, ?_⟩ r2
  rw [DataW.del_eq] at r1
  unfold ChangeMaps.delKey at r1
  rw [filter_ent] at r1
  have := owns_resize r1
  rw [List.length_map, (del_perm h0 key).length_eq] at this
  exact this
end
end Go.Proofs.YtidhbpfkiapcjaaDoor.P
end
/-! A range over a map of texts to numbers, as a list of entries that are still to come. -/
section
namespace Go.Proofs.YtidhbpfkiapcjaaDoor.P
open Go Go.Maps
variable {P : Program} {k e : TypeId} {w : World} {b r : Nat} {T R : List (ByteArray × Int)}

/-- Block r goes over the map b, which holds T; R are the entries that are still to come. -/
def RangesT (P : Program) (k e : TypeId) (w : World) (b r : Nat) (T R : List (ByteArray × Int)) : Prop :=
  Apart T ∧ (∃ S : List (ByteArray × Int), (S ++ R).Perm T) ∧ ∃ (T0 : List (ByteArray × Int)) (n : Nat) (left : Lit → Bool) (cnt : Nat), T0.Perm T ∧ w.ranges P k (plainElem P e) b r n (DataW.map (T0.map entL)) left cnt ∧ ∀ m, left (keyL m) = (getT R m).isSome
theorem RangesT.kept {w' : World} {row : Option Nat} (h : RangesT P k e w b r T R) (hg : w.grownBy w' row) (hb : some b ≠ row) (hr : some r ≠ row) : RangesT P k e w' b r T R := by
  obtain ⟨h1, h2, T0, n, left, cnt, h3, h4, h5⟩ := h
  exact ⟨h1, h2, T0, n, left, cnt, h3, h4.kept hg hb hr, h5⟩
theorem RangesT.kept_left {w' : World} {row : Option Nat} (h : RangesT P k e w b r T R) (hg : w.grownBy w' row) (hb : some b ≠ row) (hr : some r ≠ row) : w'.rangeLeft b r = w.rangeLeft b r := by
  obtain ⟨_, _, T0, n, left, cnt, _, h4, _⟩ := h
  rw [h4.left_eq, (h4.kept hg hb hr).left_eq]
theorem get_del_same (R : List (ByteArray × Int)) (m : ByteArray) : getT (delT R m) m = none := by
  rw [get_none]
  exact fun p hp => (mem_del.1 hp).2
theorem get_del_other (R : List (ByteArray × Int)) {m m' : ByteArray} (h : m' ≠ m) : getT (delT R m) m' = getT R m' := by
  unfold getT delT
  congr 1
  induction R with
  | nil => rfl
  | cons p R ih =>
    rw [List.filter_cons, List.find?_cons]
    by_cases hp : p.1 = m
    · rw [if_neg (by simp [hp]), ih, decide_eq_false (by rw [hp]; exact Ne.symm h)]
    · rw [if_pos (by simp [hp]), List.find?_cons, ih]
theorem del_perm_cons {R : List (ByteArray × Int)} (ha : Apart R) {m : ByteArray} {v : Int} (h : (m, v) ∈ R) : ((m, v) :: delT R m).Perm R := by
  induction R with
  | nil => cases h
  | cons p R ih =>
    have h1 := List.pairwise_cons.1 ha
    unfold delT
    rw [List.filter_cons]
    rcases List.mem_cons.1 h with rfl | h
    · rw [if_neg (by simp)]
      have : R.filter (fun p => !decide (p.1 = m)) = R := List.filter_eq_self.2 (fun p hp => by have := h1.1 p hp; simp; exact fun e => this e.symm)
      rw [this]
    · have hne : p.1 ≠ m := h1.1 _ h
      rw [if_pos (by simp [hne])]
      exact (List.Perm.swap _ _ _).trans ((ih h1.2 h).cons p)
theorem OwnsT.range {t : TypeId} (h : OwnsT P k e w b T) (hk : P.underlying k = some .string) (ht : P.underlying t = some (.map k e)) {ops : Array Oper} {rest : List Oper} {o : Oper} {a : Act} {Q : Exit → Act → World → Prop} (hg : o.guard = none) (m : Operand) (hop : o.op = Op.range t m) (hm : a.eval m = .map (some b))
    (hK : ∀ w', RangesT P k e w' b w.heap.size T T → w.grownBy w' none → w'.heap.size = w.heap.size + 1 → wpList P ops Q rest (a.put o.dst (.pointer (some ⟨w.heap.size, 0, none⟩))) w') :
    wpList P ops Q (o :: rest) a w := by
  obtain ⟨ha, T0, h0, h1⟩ := h
  refine wpList_range_own w hg m t hop k e (string_keyed hk) ht (plainElem P e) b _ _ hm h1 fun w' r1 r2 r3 => hK w' ⟨ha, ⟨[], List.Perm.refl _⟩, T0, _, _, _, h0, r1, fun m => ?_⟩ r2 r3
  rw [has_ent, ha.get_perm h0]
/-- The step at the operation. -/
theorem wpList_next_T (hk : P.underlying k = some .string) (he : P.underlying e = some (.int .i64)) {ops : Array Oper} {rest : List Oper} {o : Oper} {a : Act} {Q : Exit → Act → World → Prop} (hg : o.guard = none) (it : Operand) (hop : o.op = Op.next it false) (hit : a.eval it = .pointer (some ⟨r, 0, none⟩)) (h : RangesT P k e w b r T R)
    (hDone : R = [] → wpList P ops Q rest (a.put o.dst (.tuple #[.bool false])) w)
    (hMore : ∀ (m : ByteArray) (v : Int) (w' : World), (m, v) ∈ R → RangesT P k e w' b r T (delT R m) → w.grownBy w' (some r) → w'.heap.size = w.heap.size → w'.rangeLeft b r < w.rangeLeft b r → (Instr.entry (.pointer (some ⟨r, 0, none⟩))).run P w' = .ok (.tuple #[.string m, .int .i64 v]) w' → wpList P ops Q rest (a.put o.dst (.tuple #[.bool true, .string m, .int .i64 v])) w') :
    wpList P ops Q (o :: rest) a w := by
  obtain ⟨ha, ⟨S, hS⟩, T0, n, left, cnt, h0, h1, h2⟩ := h
  have haR : Apart R := (List.pairwise_append.1 (ha.perm hS)).2.1
  refine wpList_next_ranges w hg it hop k (string_keyed hk) (plainElem P e) Value.string (Value.int .i64) (fun key kl hkey => by
      obtain ⟨s, rfl, _⟩ := WideMaps.string_of_keyOf hk hkey
      exact ⟨s, rfl⟩) (fun v y hv => by
      obtain ⟨c, rfl, _⟩ := plainElem_int_inv he hv
      exact ⟨c, rfl⟩) b r n _ left cnt hit h1 (fun _ hl => hDone ?_) ?_
  · cases R with
    | nil => rfl
    | cons p R =>
      have := hl (keyL p.1)
      rw [h2] at this
      unfold getT at this
      simp at this
  · intro m v kl y w' cnt' hkey hlk hv hat hrg hlt hgr hsz hen
    obtain ⟨s, hs, hkl, _⟩ := WideMaps.string_of_keyOf hk hkey
    injection hs with hs
    subst hs
    have hkl2 : kl = keyL m := hkl
    subst hkl2
    rw [h2] at hlk
    obtain ⟨v', hv'⟩ := Option.isSome_iff_exists.1 hlk
    have hin : (m, v') ∈ R := (haR.get m v').1 hv'
    have hinT : (m, v') ∈ T := hS.mem_iff.1 (List.mem_append_right _ hin)
    have hvv : v' = v := by
      have h3 := hat (.lit (.int .i64 0))
      rw [at_ent, (ha.perm h0).get m v' |>.2 (h0.mem_iff.2 hinT)] at h3
      obtain ⟨c, hc, hy, _⟩ := plainElem_int_inv he hv
      injection hc with _ hc
      rw [hy] at h3
      injection h3 with h3
      injection h3 with _ h3
      rw [h3, hc]
    subst hvv
    refine hMore m v' w' hin ⟨ha, ⟨S ++ [(m, v')], ?_⟩, T0, n, _, cnt', h0, hrg, fun m' => ?_⟩ hgr hsz (by rw [hrg.left_eq, h1.left_eq]; exact hlt) hen
    · rw [List.append_assoc]
      exact ((del_perm_cons haR hin).append_left S).trans hS
    · rw [h2, same_key]
      by_cases hm : m' = m
      · subst hm; rw [get_del_same]; simp
      · rw [get_del_other R hm, decide_eq_false hm]; simp
end Go.Proofs.YtidhbpfkiapcjaaDoor.P
end
