/- Rows of parts of a pattern: what such a row says of a text, and whether it has a part that is no star. Conditions: each theorem names its own. -/
import Derived.Test.YtmejbponpkkobaaPH2
namespace Go.Proofs.Ytmejbponpkkobaa.P
open Go.RowKit Go.Proofs.YtmejbponpkkobaaW.PrintWords Go.Proofs.YtmejbponpkkobaaW.PrintLast Go.Proofs.YtmejbponpkkobaaW.PrintMore

/-- A part of a pattern: any characters, or a class of spans, or what is in none of them. -/
inductive Pt where
  | many
  | cls (l : List S67) (no : Bool)
def Pt.is : Pt → Int → Bool
  | .many, _ => true
  | .cls l no, r => l.any (inSpan r) != no
def Pt.star : Pt → Bool
  | .many => true
  | .cls _ _ => false
/-- A part's one cell, read .. -/
def ptK (w : World) (x : Pt) (v : Value) : Prop := match x with
  | .many => v = .iface 48 (.agg #[])
  | .cls l no => ∃ A c, v = .iface 57 (.agg #[.slice A l.length c, .bool no]) ∧ l.length ≤ c ∧ Kd.C k67 w A l.length l
/-- .. and made. -/
def ptM (w : World) (base : Nat) (ok : Nat → Prop) (x : Pt) (v : Value) : Prop := match x with
  | .many => v = .iface 48 (.agg #[])
  | .cls l no => ∃ u, v = .iface 57 (.agg #[u, .bool no]) ∧ Kd.R k67 67 w base ok u l
def kP : Kd Pt where
  sz := 1
  E := [67]
  K := fun w x cs => ∃ v, cs = [v] ∧ ptK w x v
  M := fun w base ok x cs => ∃ v, cs = [v] ∧ ptM w base ok x v
  K_len := by
    rintro w x cs ⟨v, rfl, _⟩
    rfl
  K_one := by
    rintro w x cs ⟨v, rfl, h⟩ u hu
    rw [List.mem_singleton.1 hu]
    cases x with
    | many => rw [show v = _ from h]; rfl
    | cls l no => obtain ⟨A, c, rfl, _⟩ := h; rfl
  K_below := by
    rintro w w1 x cs hb ⟨v, rfl, h⟩
    refine ⟨v, rfl, ?_⟩
    cases x with
    | many => exact h
    | cls l no => obtain ⟨A, c, rfl, hl, hr⟩ := h; exact ⟨A, c, rfl, hl, Kd.C_below hr hb⟩
  K_of_M := by
    rintro w base ok x cs ⟨v, rfl, h⟩
    refine ⟨v, rfl, ?_⟩
    cases x with
    | many => exact h
    | cls l no => obtain ⟨u, rfl, h⟩ := h; obtain ⟨A, c, rfl, hl, hr⟩ := Kd.R_reads h; exact ⟨A, c, rfl, hl, hr⟩
  M_mono := by
    rintro w base ok ok' x cs hok ⟨v, rfl, h⟩
    refine ⟨v, rfl, ?_⟩
    cases x with
    | many => exact h
    | cls l no => obtain ⟨u, rfl, h⟩ := h; exact ⟨u, rfl, Kd.R_mono h hok⟩
  M_bound := by
    rintro w base ok x cs ⟨v, rfl, h⟩
    refine ⟨v, rfl, ?_⟩
    cases x with
    | many => exact h
    | cls l no => obtain ⟨u, rfl, h⟩ := h; exact ⟨u, rfl, Kd.R_bound h⟩
  M_move := by
    rintro w w1 base ok x cs hm ⟨v, rfl, h⟩
    refine ⟨v, rfl, ?_⟩
    cases x with
    | many => exact h
    | cls l no => obtain ⟨u, rfl, h⟩ := h; exact ⟨u, rfl, Kd.R_move h hm⟩
  M_lower := by
    rintro w base base' ok x cs hb ⟨v, rfl, h⟩
    refine ⟨v, rfl, ?_⟩
    cases x with
    | many => exact h
    | cls l no => obtain ⟨u, rfl, h⟩ := h; exact ⟨u, rfl, Kd.R_lower h hb⟩
theorem at_P {w : World} {A : Option Addr} {n : Nat} {xs : List Pt} (h : Kd.C kP w A n xs) (k : Nat) (h1 : k < n) : ∃ ad v, A = some ad ∧ w.cell? (ad.add k) = some v ∧ ptK w (xs.getD k .many) v := by
  obtain ⟨ad, c, e, _, ⟨v, rfl, hK⟩, hc⟩ := Kd.C_get h Pt.many (k : Int) (by omega) (by omega)
  refine ⟨ad, v, e, ?_, ?_⟩
  · have := hc 0 v rfl
    simpa [kP] using this
  · simpa using hK
theorem ptK_below {w w1 : World} {x : Pt} {v : Value} (hb : Below w.heap.size w w1) (h : ptK w x v) : ptK w1 x v := by
  obtain ⟨v', e, h'⟩ := kP.K_below hb ⟨v, rfl, h⟩
  rw [(List.singleton_inj.1 e)]
  exact h'
theorem notStar {x : Pt} {v : Value} {w : World} (h : ptK w x v) : Calls Try.prog 27 #[v] w fun e w' => e = .returned (.bool (!x.star)) ∧ Below w.heap.size w w' := by
  cases x with
  | many => rw [show v = _ from h]; exact notStar_many w
  | cls l no => obtain ⟨A, c, rfl, _⟩ := h; exact notStar_class _ no w
theorem func27_enters (args : Array Value) (w : World) : (callFunc 27 args).run Try.prog w = .ok (.enter 27 args) w := enters_of Try.func27 (by kernel_rfl) rfl args w
set_option maxHeartbeats 3200000 in
theorem parts_index (A : Option Addr) (c : Nat) (xs : List Pt) (w : World) (hx : Kd.C kP w A xs.length xs) :
    Calls Try.prog 36 #[.slice A xs.length c, .func (.func 27) #[] #[]] w fun e w' => (∃ i : Int, e = .returned (.int .i64 i) ∧ decide (0 ≤ i) = xs.any (fun x => !x.star)) ∧ Below w.heap.size w w' := by
  have HX := Aside0.mk hx
  have hmax := Kd.C_max hx
  clear hx
  have eg := func27_enters
  go_enter Try.func36, Try.ntmps36
  go_wp2
  go_loopg [5, 8] xs.length (fun gg _ s8 wr => ∃ kk : Nat, kk ≤ xs.length ∧ xs.length - kk ≤ gg ∧ s8 = .int .i64 kk ∧ Aside0 (Below w.heap.size w wr) ∧ Aside0 (∀ j, j < kk → (!(xs.getD j .many).star) = false))
  case atStart => exact ⟨0, Nat.zero_le _, by omega, rfl, ⟨Below.refl _ w⟩, ⟨fun j hj => absurd hj (Nat.not_lt_zero _)⟩⟩
  case round =>
    obtain ⟨kk, hkk, hg, rfl, BW, NO⟩ := hrel
    by_cases hlt : kk < xs.length
    · have hltz : (kk : Int) < (xs.length : Int) := by omega
      obtain ⟨ad, v, e1, hc0, hK⟩ := at_P (Kd.C_below HX.out BW.out) kk hlt
      subst e1
      have HK := Aside0.mk hK
      clear hK
      cases hq : (!(xs.getD kk .many).star) with
      | true =>
        go_wp2_with fail
        refine (notStar HK.out).mono ?_
        rintro e w1 ⟨rfl, hb⟩
        rw [hq]
        go_wp2
        go_ret
        refine ⟨⟨kk, rfl, ?_⟩, BW.out.trans (hb.mono BW.out.size)⟩
        rw [any_get (fun x : Pt => !x.star) xs .many kk (by omega) hq]
        exact decide_eq_true (by omega)
      | false =>
        go_wp2_with fail
        refine (notStar HK.out).mono ?_
        rintro e w1 ⟨rfl, hb⟩
        rw [hq]
        go_wp2
        go_roundg (xs.length - (kk + 1))
        case measure => omega
        case rel =>
          refine ⟨kk + 1, by omega, by omega, by go_num, ⟨BW.out.trans (hb.mono BW.out.size)⟩, ⟨fun j hj => ?_⟩⟩
          by_cases e : j = kk
          · subst e
            exact hq
          · exact NO.out j (by omega)
    · have hltz : ¬ (kk : Int) < (xs.length : Int) := by omega
      have : kk = xs.length := by omega
      rw [this] at NO
      go_wp2
      go_ret
      exact ⟨⟨-1, rfl, by rw [none_any (fun x : Pt => !x.star) xs .many NO.out]; rfl⟩, BW.out⟩
set_option maxHeartbeats 3200000 in
theorem parts_has (A : Option Addr) (c : Nat) (xs : List Pt) (w : World) (hx : Kd.C kP w A xs.length xs) :
    Calls Try.prog 26 #[.slice A xs.length c, .func (.func 27) #[] #[]] w fun e w' => e = .returned (.bool (xs.any (fun x => !x.star))) ∧ Below w.heap.size w w' := by
  have HX := Aside0.mk hx
  clear hx
  go_enter Try.func26, Try.ntmps26
  go_wp2_with fail
  refine (parts_index A c xs _ HX.out).mono ?_
  rintro e w1 ⟨⟨i, rfl, hi⟩, hb⟩
  go_wp2
  go_ret
  exact ⟨by rw [← hi]; rfl, hb⟩
end Go.Proofs.Ytmejbponpkkobaa.P
