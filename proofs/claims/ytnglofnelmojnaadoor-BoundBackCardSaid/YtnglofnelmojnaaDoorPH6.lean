/- What 'cmp.Compare' answers of two texts. Conditions: none. -/
import Derived.Test.YtnglofnelmojnaaDoorPx0
import Derived.Lib.Hide
import Derived.WalkSpells
import Derived.WalkLawsBesides
import Derived.Outline
namespace Go.Proofs.YtnglofnelmojnaaDoor.P
open Go.RowKit Go.Lib Go.Proofs.YtnglofnelmojnaaDoorW.PrintWords Go.Proofs.YtnglofnelmojnaaDoorW.PrintLast Go.Proofs.YtnglofnelmojnaaDoorW.PrintMore

def cmp_Compare_string.f (a0 a1 : ByteArray) : Option Int := some (if Op.bytesLess a0.toList a1.toList = true then -1 else if (a0.toList == a1.toList) = true then 0 else 1)
set_option maxHeartbeats 4000000 in
set_option maxRecDepth 100000 in
theorem cmpS_lt (x y : ByteArray) (hl : Op.bytesLess x.toList y.toList = true) (w : World) :
    Calls Tryd.prog 26 #[.string x, .string y] w fun e w' => e = .returned (.int .i64 (-1)) ∧ Drawn0 w w' := by
  go_enter Tryd.func26, Tryd.ntmps26
  go_wp2
  go_ret
  exact ⟨rfl, Drawn0.refl _⟩
set_option maxHeartbeats 4000000 in
set_option maxRecDepth 100000 in
theorem cmpS_eq (x y : ByteArray) (hl : Op.bytesLess x.toList y.toList = false) (he : (x.toList == y.toList) = true) (w : World) :
    Calls Tryd.prog 26 #[.string x, .string y] w fun e w' => e = .returned (.int .i64 0) ∧ Drawn0 w w' := by
  go_enter Tryd.func26, Tryd.ntmps26
  go_wp2
  go_ret
  exact ⟨rfl, Drawn0.refl _⟩
set_option maxHeartbeats 4000000 in
set_option maxRecDepth 100000 in
theorem cmpS_gt (x y : ByteArray) (hl : Op.bytesLess x.toList y.toList = false) (he : (x.toList == y.toList) = false) (w : World) :
    Calls Tryd.prog 26 #[.string x, .string y] w fun e w' => e = .returned (.int .i64 1) ∧ Drawn0 w w' := by
  have he2 : ¬ x.toList = y.toList := beq_eq_false_iff_ne.mp he
  go_enter Tryd.func26, Tryd.ntmps26
  go_wp2
  go_ret
  exact ⟨rfl, Drawn0.refl _⟩
theorem cmp_Compare_string.calls (a0 : ByteArray) (a1 : ByteArray) (r : Int) (w : World) (h : cmp_Compare_string.f a0 a1 = some r) :
    Calls Tryd.prog 26 #[.string a0, .string a1] w fun e w' => e = .returned (.int .i64 r) ∧ Drawn0 w w' := by
  obtain rfl := Option.some.inj h
  cases hl : Op.bytesLess a0.toList a1.toList with
  | true => exact cmpS_lt a0 a1 hl w
  | false =>
    cases he : (a0.toList == a1.toList) with
    | true => exact cmpS_eq a0 a1 hl he w
    | false => exact cmpS_gt a0 a1 hl he w
end Go.Proofs.YtnglofnelmojnaaDoor.P
