/- The spans of a level. Conditions: each theorem names its own. -/
import Derived.Test.YtnlbdmiflihghaaSKX
namespace Go.Proofs.Ytnlbdmiflihghaa.P
open Go.RowKit Go.Shelf Go.Proofs.YtnlbdmiflihghaaW.PrintWords Go.Proofs.YtnlbdmiflihghaaW.PrintLast Go.Proofs.YtnlbdmiflihghaaW.PrintMore Go.Proofs.Ytnlbdmiflihghaa.SK
attribute [local go_sem] Oper.semAt_some

/-- How far apart they are that are on a level. -/
def gaps (i : Nat) : List Nat → Nat → List Int
  | [], _ => []
  | h :: r, d => if i < h then ((d + 1 : Nat) : Int) :: gaps i r 0 else gaps i r (d + 1)
theorem drop_getD (lv : List Nat) (p : Nat) (h : p < lv.length) : lv.drop p = lv.getD p 0 :: lv.drop (p + 1) := by
  rw [List.drop_eq_getElem_cons h, List.getD_eq_getElem?_getD, List.getElem?_eq_getElem h]
  rfl
theorem gaps_some (i : Nat) (lv : List Nat) (q : Nat) (hq : V lv i q) : ∀ n p d : Nat, p + n + 1 = q → (∀ r, p < r → r < q → ¬ V lv i r) → gaps i (lv.drop p) d = ((d + n + 1 : Nat) : Int) :: gaps i (lv.drop q) 0 := by
  have hl := V_le hq
  intro n
  induction n with
  | zero =>
    intro p d hp _
    have : p = q - 1 := by omega
    subst this
    rw [drop_getD lv (q - 1) (by omega), gaps, if_pos hq.2, show q - 1 + 1 = q by omega]
  | succ n ih =>
    intro p d hp hno
    have h1 := hno (p + 1) (by omega) (by omega)
    rw [drop_getD lv p (by omega), gaps, if_neg (fun h => h1 ⟨by omega, by rw [show p + 1 - 1 = p by omega]; exact h⟩), ih (p + 1) (d + 1) (by omega) (fun r h2 h3 => hno r (by omega) h3)]
    congr 2
    omega
theorem gaps_none (i : Nat) (lv : List Nat) : ∀ n p d : Nat, p + n = lv.length → (∀ r, p < r → ¬ V lv i r) → gaps i (lv.drop p) d = [] := by
  intro n
  induction n with
  | zero =>
    intro p d hp _
    rw [List.drop_eq_nil_of_le (by omega)]
    rfl
  | succ n ih =>
    intro p d hp hno
    have h1 := hno (p + 1) (by omega)
    rw [drop_getD lv p (by omega), gaps, if_neg (fun h => h1 ⟨by omega, by rw [show p + 1 - 1 = p by omega]; exact h⟩)]
    exact ih (p + 1) (d + 1) (by omega) (fun r h2 => hno r (by omega))
/-- A position's link tells the next gap. -/
theorem gaps_link {lv : List Nat} {i p : Nat} {o : Option Nat} {s : Int} (hp : p ≤ lv.length) (h : Nx lv i p o s) : gaps i (lv.drop p) 0 = match o with | some q => s :: gaps i (lv.drop q) 0 | none => [] := by
  cases o with
  | none => exact gaps_none i lv (lv.length - p) p 0 (by omega) h.1
  | some q =>
    obtain ⟨h1, h2, h3, h4⟩ := h
    rw [gaps_some i lv q h2 (q - p - 1) p 0 (by omega) h3]
    show _ :: _ = s :: _
    congr 1
    omega
theorem gaps_len (i : Nat) : ∀ (l : List Nat) (d : Nat), (gaps i l d).length ≤ l.length
  | [], _ => Nat.le_refl _
  | h :: r, d => by
    unfold gaps
    split
    · have := gaps_len i r 0
      simp only [List.length_cons]; omega
    · have := gaps_len i r (d + 1)
      simp only [List.length_cons]; omega
theorem spans_out (b : Nat) (bs : List Nat) (σ : St) (l : Int) (w : World) (hS : Sk w b bs σ) (hl : l < 1 ∨ (σ.H : Int) < l) :
    Calls Try.prog 15 #[.pointer (some ⟨b, 0, none⟩), .int .i64 l] w fun e w' => e = .returned (.slice none 0 0) ∧ w' = w := by
  have hH := hS.H_
  clear hS
  go_enter Try.func15, Try.ntmps15
  by_cases h1 : l < 1
  · go_wp2
    go_ret
    exact ⟨rfl, rfl⟩
  · have h2 : (σ.H : Int) < l := by omega
    go_wp2
    go_ret
    exact ⟨rfl, rfl⟩
theorem spans_nil (l : Int) (w : World) : Calls Try.prog 15 #[.pointer none, .int .i64 l] w fun e w' => e = .returned (.slice none 0 0) ∧ w' = w := by
  go_enter Try.func15, Try.ntmps15
  go_wp2
  go_ret
  exact ⟨rfl, rfl⟩
theorem ptr_eq (o : Option Nat) : ptr o = .pointer (o.map fun c => ⟨c, 0, none⟩) := by cases o <;> rfl
/-- A link's two cells in a block of their own. -/
def Lk (W : World) (B : Nat) (P : Option Addr) (s : Int) : Prop := Bk W B 58 2 (fun j => if j = 0 then .pointer P else .int .i64 s)
theorem Lk.c0 {W : World} {B : Nat} {P : Option Addr} {s : Int} (h : Lk W B P s) : W.cell? ⟨B, 0, none⟩ = some (.pointer P) := Bk.cell h (show 0 < 2 by omega)
theorem Lk.c1 {W : World} {B : Nat} {P : Option Addr} {s : Int} (h : Lk W B P s) : W.cell? ⟨B, 1, none⟩ = some (.int .i64 s) := Bk.cell h (show 1 < 2 by omega)
theorem Lk.new (W : World) (P : Option Addr) (s : Int) : Lk (W.alloc (.cells #[.pointer P, .int .i64 s] 58)) W.heap.size P s := by
  refine Bk.of _ (World.alloc_heap_new W _) rfl (fun j hj => ?_)
  have : j = 0 ∨ j = 1 := by
    have : j < 2 := hj
    omega
  rcases this with rfl | rfl <;> rfl
set_option maxHeartbeats 8000000 in
set_option maxRecDepth 100000 in
theorem spans_calls (b : Nat) (bs : List Nat) (σ : St) (i : Nat) (hi : i < σ.H) (w : World) (hS : Sk w b bs σ) (hX : Shape b bs σ) :
    Calls Try.prog 15 #[.pointer (some ⟨b, 0, none⟩), .int .i64 ((i + 1 : Nat) : Int)] w fun e w' => ∃ v, e = .returned v ∧ RowI w' w.heap.size v (gaps i (lvs σ bs) 0) ∧ Below w.heap.size w w' := by
  have hH := hS.H_
  have hbl := hS.head.lt
  have hH32 := hX.H32
  have hsm := hX.small
  obtain ⟨o, s, hn, ht⟩ := hX.tw 0 (by omega) i hi
  have hto := hS.to_ (List.mem_cons_self (a := b) (l := bs)) (show i < 32 by omega)
  have hsp := hS.span_ (List.mem_cons_self (a := b) (l := bs)) (show i < 32 by omega)
  replace ht : σ.tow b i = (o.map (nd b bs), s) := ht
  rw [ht] at hto hsp
  have HS := Aside0.mk hS
  have HX := Aside0.mk hX
  have HN := Aside0.mk hn
  have h1 : ¬ (((i + 1 : Nat) : Int) < 1) := by omega
  have h2 : ¬ ((σ.H : Int) < ((i + 1 : Nat) : Int)) := by omega
  have hi32 : i < 32 := by omega
  have hz : IntKind.i64.wrap (((i + 1 : Nat) : Int) - 1) = (i : Int) := by rw [show ((i + 1 : Nat) : Int) - 1 = (i : Int) by omega]; exact IntWalk.i64_in _ (by omega)
  generalize hl : ((i + 1 : Nat) : Int) = l at h1 h2 hz
  have HL := Aside0.mk hl
  clear hS hX hn ht hl
  go_enter Try.func15, Try.ntmps15
  rw [ptr_eq] at hto
  generalize hpv : Option.map _ (o.map (nd b bs)) = P0 at hto
  have HPV := Aside0.mk hpv
  have hi32z : (i : Int) < 32 := by omega
  clear hpv
  go_wp2
  have hL0 := Lk.new w P0 s
  have hb0 : Below w.heap.size w (w.alloc (.cells #[.pointer P0, .int .i64 s] 58)) := below_alloc (Below.refl _ _) _
  have hlt0 : w.heap.size < (w.alloc (.cells #[.pointer P0, .int .i64 s] 58)).heap.size := by simp
  generalize World.alloc w _ = w1 at hL0 hb0 hlt0 ⊢
  clear hto hsp hH
  go_loopg [5, 6] bs.length (fun gk v5 v6 wr => ∃ (p B : Nat) (o : Option Nat) (s : Int) (out : List Int), v6 = .pointer (some ⟨B, 0, none⟩) ∧ Aside0 (RowI wr w.heap.size v5 out) ∧ Aside0 (Lk wr B ((o.map (nd b bs)).map fun c => ⟨c, 0, none⟩) s) ∧ Aside0 (Nx (lvs σ bs) i p o s) ∧ Aside0 (out ++ gaps i ((lvs σ bs).drop p) 0 = gaps i (lvs σ bs) 0) ∧ gk + p = bs.length ∧ out.length ≤ p ∧ w.heap.size ≤ B ∧ Aside0 (Below w.heap.size w wr))
  case atStart => exact ⟨0, w.heap.size, o, s, [], rfl, ⟨rowI_nil _ _⟩, ⟨by rw [HPV.out]; exact hL0⟩, HN, ⟨rfl⟩, by omega, by simp, Nat.le_refl _, ⟨hb0⟩⟩
  case round =>
    clear hL0 hb0 hlt0 HN HPV
    obtain ⟨p, B, o, s, out, rfl, HR, HLk, HN, HG, hgk, hop, hBl, HB⟩ := hrel
    have hll : (lvs σ bs).length = bs.length := lvs_len σ bs
    have hgl := gaps_link (by omega : p ≤ (lvs σ bs).length) HN.out
    obtain ⟨A, c, hv, _, _⟩ := HR.out.reads
    generalize hm : out.length = m at hv
    have HM := Aside0.mk hm
    clear hm hll
    subst hv
    cases o with
    | none =>
      have c0 : wr.cell? ⟨B, 0, none⟩ = some (.pointer none) := HLk.out.c0
      have HE : Aside0 (out = gaps i (lvs σ bs) 0) := ⟨by
        have := HG.out
        rw [hgl] at this
        simpa using this⟩
      clear hgl
      go_wp2
      go_ret
      refine ⟨_, rfl, ?_, HB.out⟩
      rw [← HE.out]
      exact HR.out
    | some q =>
      have c0 : wr.cell? ⟨B, 0, none⟩ = some (.pointer (some ⟨nd b bs q, 0, none⟩)) := HLk.out.c0
      have c1 : wr.cell? ⟨B, 1, none⟩ = some (.int .i64 s) := HLk.out.c1
      have hBw : B < wr.heap.size := Bk.lt HLk.out
      have hws : w.heap.size < wr.heap.size := by omega
      have hq := HN.out
      have hVq := hq.2.1
      have hql := V_le hVq
      rw [lvs_len] at hql
      have hpq := hq.1
      have hlq : i < lvl σ bs q := (V_lvl.mp hVq).2
      obtain ⟨o', s', hn', ht'⟩ := HX.out.tw q hql i hlq
      have hmq : nd b bs q ∈ b :: bs := nd_mem hql
      have HKB : Aside0 (∀ v1 w5, RowI w5 w.heap.size v1 (out ++ [s]) → (wr.alloc (.cells #[.int .i64 s] 3)).grownBy w5 (Value.slice A m c).ownBlock →
          (∃ A1 m1 c1, v1 = .slice A1 m1 c1) ∧ w5.cell? ⟨B, 0, none⟩ = some (.pointer (some ⟨nd b bs q, 0, none⟩)) ∧ w5.cell? ⟨B, 1, none⟩ = some (.int .i64 s) ∧ 
          (w5.alloc (.cells #[.pointer (some ⟨nd b bs q, 0, none⟩), .int .i64 s] 58)).cell? ⟨nd b bs q, 2 + i * 2, none⟩ = some (.pointer ((o'.map (nd b bs)).map fun c => ⟨c, 0, none⟩)) ∧
          (w5.alloc (.cells #[.pointer (some ⟨nd b bs q, 0, none⟩), .int .i64 s] 58)).cell? ⟨nd b bs q, 2 + i * 2 + 1, none⟩ = some (.int .i64 s') ∧
          ∀ w6, w5.alloc (.cells #[.pointer ((o'.map (nd b bs)).map fun c => ⟨c, 0, none⟩), .int .i64 s'] 58) = w6 →
            RowI w6 w.heap.size v1 (out ++ [s]) ∧ Lk w6 w5.heap.size ((o'.map (nd b bs)).map fun c => ⟨c, 0, none⟩) s' ∧ w.heap.size ≤ w5.heap.size ∧ Below w.heap.size w w6) := ⟨by
        intro v1 w5 hR5 hg5
        obtain ⟨A1, c1', hv1, _, _⟩ := hR5.reads
        have hne := own_not HR.out HLk.out (by decide)
        have hL5 : Lk w5 B (some ⟨nd b bs q, 0, none⟩) s := Bk.move HLk.out ((hg5.block B (by rw [World.size_alloc]; omega) (fun e => hne e.symm)).trans (((Below.refl wr.heap.size wr).alloc (Nat.le_refl _) _).block B hBw))
        have hb5 : Below w.heap.size w w5 := (HB.out.alloc (by omega) _).grown hg5 (by rw [World.size_alloc]; omega) (fun k hk => (HR.out.lt k hk).1)
        have h5s : wr.heap.size + 1 ≤ w5.heap.size := by have := hg5.size; rwa [World.size_alloc] at this
        have hb6 : Below w.heap.size w (w5.alloc (.cells #[.pointer (some ⟨nd b bs q, 0, none⟩), .int .i64 s] 58)) := hb5.alloc (by omega) _
        have hS6 := HS.out.below hb6
        have t1 := hS6.to_ hmq (show i < 32 by omega)
        have t2 := hS6.span_ hmq (show i < 32 by omega)
        rw [ht'] at t1 t2
        rw [ptr_eq] at t1
        refine ⟨⟨A1, _, c1', hv1⟩, hL5.c0, hL5.c1, t1, t2, ?_⟩
        rintro w6 rfl
        refine ⟨rows_own hR5 (fun k hk => ?_), Lk.new w5 _ _, by omega, hb5.alloc (by omega) _⟩
        have hk5 := (hR5.lt k hk).2
        exact ((Below.refl w5.heap.size w5).alloc (Nat.le_refl _) _).block k hk5⟩
      have HN' := Aside0.mk hn'
      have HGL := Aside0.mk hgl
      clear hn' ht' hmq hlq hVq hq hgl
      generalize hP' : Option.map _ (o'.map (nd b bs)) = P' at HKB
      have HP' := Aside0.mk hP'
      clear hP'
      generalize hc : nd b bs q = cq at c0 HKB
      have HC := Aside0.mk hc
      clear hc
      go_wp2_with (first | ((with_reducible refine gate_builtin (b := .append) (xs := #[.tmp 40, .tmp 43]) rfl ?_); at_builtin; refine append_3 wr rfl _ _ rfl w.heap.size (.slice A m c) out s rfl rfl HR.out (by omega) (by omega) ?_; intro v1 w5 hR5 hg5; obtain ⟨⟨A1, m1, c1', rfl⟩, d0, d1, d2, d3, hfin⟩ := HKB.out v1 w5 hR5 hg5; clear hR5 hg5; have HFIN := Aside0.mk hfin; clear hfin))
      obtain ⟨p1, p2, p3, p4⟩ := HFIN.out _ rfl
      go_roundg (bs.length - q)
      case measure => omega
      case rel =>
        refine ⟨q, w5.heap.size, o', s', out ++ [s], rfl, ⟨p1⟩, ⟨by rw [HP'.out]; exact p2⟩, HN', ⟨?_⟩, by omega, by rw [List.length_append, List.length_singleton]; omega, p3, ⟨p4⟩⟩
        rw [← HG.out, HGL.out, List.append_assoc]
        rfl
end Go.Proofs.Ytnlbdmiflihghaa.P
