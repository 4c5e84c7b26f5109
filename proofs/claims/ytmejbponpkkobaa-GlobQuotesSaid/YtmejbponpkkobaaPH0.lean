/- A row of whole numbers that is only read: the block it lies in is none that its footprint leaves out. Conditions: that the row is not empty. -/
import Derived.Test.YtmejbponpkkobaaPx0
namespace Go.Proofs.Ytmejbponpkkobaa.P
open Go.RowKit Go.Proofs.YtmejbponpkkobaaW.PrintWords Go.Proofs.YtmejbponpkkobaaW.PrintLast Go.Proofs.YtmejbponpkkobaaW.PrintMore

theorem row_away {k : IntKind} {e : Nat} {W : World} {base n c : Nat} {ok : Nat → Prop} {ad : Addr} {xs : List Int} {g : Nat} (h : Kd.V (Kd.int k) e W base ok (.slice (some ad) n c) xs) (hok : ∀ j, ok j → j ≠ g)
    (hn : (0 < n) = True := by (first | assumption | (apply eq_true; first | assumption | omega | (apply of_decide_eq_true; assumption) | (simp only [eq_iff_iff, iff_true] at *; omega)))) : ad.block ≠ g := by
  intro hg
  have hn := of_eq_true hn
  have hf := Kd.V_F h
  have hC := hf { W with heap := W.heap.setIfInBounds g (.cells #[] 0 (0, 0)) } (fun j hj _ => by
    have := hok j hj
    show (W.heap.setIfInBounds g _)[j]? = _
    rw [Array.getElem?_setIfInBounds_ne (fun e => this e.symm)])
  obtain ⟨ad', e1, hc⟩ := Kd.at_int hC 0 (by omega) (by omega)
  injection e1 with e1
  subst e1
  have hb : (ad.add (0 : Int).toNat).block = g := by rw [← hg]; rfl
  unfold World.cell? at hc
  rw [hb] at hc
  rcases Nat.lt_or_ge g W.heap.size with hlt | hge
  · simp [hlt] at hc
  · simp [Nat.not_lt.2 hge] at hc
end Go.Proofs.Ytmejbponpkkobaa.P
