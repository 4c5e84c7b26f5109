/- The law 'FlagsRises' at two numbers of 64 bits: its pure part. Conditions: none. -/
import Derived.Test.YtndjbhibajjaoaaPH4
namespace Go.Proofs.Ytndjbhibajjaoaa.Pure
open Go.RowKit Go.Proofs.Ytndjbhibajjaoaa.P

theorem FlagsRises : ∀ (a0_0 : Bool) (a0_1 : Bool) (a0_2 : Bool) (a0_3 : Bool) (a0_4 : Bool) (a0_5 : Bool) (a1 : Bool) (a2 : Int) (a3 : Int), (Lit.int .i64 a2).wf = true → (Lit.int .i64 a3).wf = true → paliolaw12_FlagsRises.f a0_0 a0_1 a0_2 a0_3 a0_4 a0_5 a1 a2 a3 = some true :=
  fun _ _ _ _ _ _ _ _ _ ha hb => if_pos ⟨ha, hb⟩
end Go.Proofs.Ytndjbhibajjaoaa.Pure
