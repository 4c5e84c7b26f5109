/- slices.SortFunc at entries with compare: the row holds the entries sorted. -/
import Derived.Test.YtidhbpfkiapcjaaDoorAD
import Derived.Test.YtidhbpfkiapcjaaDoorMP
import Derived.Test.YtidhbpfkiapcjaaDoorShS
namespace Go.Proofs.YtidhbpfkiapcjaaDoor.P
open Go.RowKit Go.Lib Go.Sort Go.Proofs.YtidhbpfkiapcjaaDoorW.PrintWords Go.Proofs.YtidhbpfkiapcjaaDoorW.PrintLast Go.Proofs.YtidhbpfkiapcjaaDoorW.PrintMore Go.Proofs.YtidhbpfkiapcjaaDoor.Pure

/-- An entry's two cells. -/
def encE (x : S36) : List Value := [.string x.f0, .int .i64 x.f1]
instance : Inhabited S36 := ⟨z36⟩
theorem cmp_lays (blk off size : Nat) (w : World) : CmpLays Tryd.prog 35 #[] encE 2 cmpE blk off size w := fun m os dk _ x y =>
  (algebra_compare.callsD 5 x.f0 x.f1 y.f0 y.f1 _ (sortWorldK encE 2 w blk off m dk os) (compare_own x y)).mono fun _ _ ⟨he, hg⟩ => ⟨he, hg.grow⟩
theorem lt_own (x y : S36) : ltOf cmpE x y = lessE x y := by
  unfold ltOf
  exact cmp_neg x y
theorem swo_own : SWO (ltOf cmpE) where
  irrefl x := by rw [lt_own]; exact lessE_irrefl x
  trans x y z h1 h2 := by rw [lt_own] at *; exact lessE_trans x y z h1 h2
  ntrans x y z h1 h2 := by
    rw [lt_own] at *
    cases h : lessE x z with
    | false => rfl
    | true =>
      cases h3 : lessE y x with
      | true => rw [lessE_trans y x z h3 h] at h2; cases h2
      | false =>
        have := lessE_tri x y h1 h3
        subst this
        rw [h] at h2
        cases h2
theorem agg36 : ∀ w, (isAgg 36).run Tryd.prog w = .ok true w := fun w => by kernel_rfl
theorem size36 : ∀ w, (Go.sizeOf 36).run Tryd.prog w = .ok 2 w := fun w => by kernel_rfl
theorem sort_calls (blk off cap : Nat) (d : Array S36) (w : World) (hH : HoldsK encE 2 w blk off d) (hblk : blk < w.heap.size) (hsz : d.size < 4611686018427387904) :
    Calls Tryd.prog 47 #[.slice (some ⟨blk, off, none⟩) d.size cap, .func (.func 35) #[] #[]] w fun e w' => e = .returned (.tuple #[]) ∧ ∃ n os, w' = sortWorldK encE 2 w blk off n (d.toList.mergeSort fun x y => !(ltOf cmpE) y x).toArray os := by
  have eg : ∀ args w, (callFunc 35 args).run Tryd.prog w = .ok (.enter 35 args) w := enters_of Tryd.func35 (by kernel_rfl) rfl
  exact AnyQ.slices_SortFunc_total Tryd.sortE 2 agg36 size36 encE (fun _ => rfl) (fun x v hv => by simp [encE] at hv; rcases hv with rfl | rfl <;> rfl) cmpE swo_own 35 #[] blk off cap d w eg (cmp_lays blk off d.size w) hH hblk hsz (fun x y h1 h2 => by rw [lt_own] at h1 h2; exact lessE_tri x y h1 h2)
theorem sort_none (p : Option Addr) (cap : Nat) (fv : Value) (w : World) : Calls Tryd.prog 47 #[.slice p 0 cap, fv] w fun e w' => e = .returned (.tuple #[]) ∧ w' = w := AnyF.slices_SortFunc_none Tryd.sortE p cap fv w
end Go.Proofs.YtidhbpfkiapcjaaDoor.P
