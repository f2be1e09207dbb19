/-
  The law ShowOwn, over a tree as memory holds it.
-/
import Derived.Test.YteeojceloljcbaaDoorOwB
import Derived.Test.YteeojceloljcbaaDoorOwC
import Derived.Test.YteeojceloljcbaaDoorOwD
set_option linter.unusedVariables false
namespace Go.Proofs.YteeojceloljcbaaDoor.H
open Go.RowKit Go.Proofs.YteeojceloljcbaaDoor.P
theorem law_own (A : Option Addr) (c : Nat) (l0 : List Pt) (w : World) (h : Law w A c l0) :
    Calls Tryd.prog 7 #[.agg #[.slice A l0.length c]] w fun e w' => e = .returned (.bool true) ∧ Below w.heap.size w w' := by
  cases hl : largeB l0 with
  | true => exact own_big A c l0 w h hl
  | false =>
    have hn : l0.length ≤ 100000 := by simp [largeB] at hl; omega
    cases hv : validSpec l0 with
    | some f =>
      obtain ⟨fc, fa⟩ := f
      exact own_bad A c l0 w h hl hn fc fa hv
    | none =>
      by_cases ht : 4096 < (txt l0 ((l0.length - 1 : Nat) : Int)).length
      · exact own_long A c l0 w h hl hn hv (by simp [textSpec, hv, ht])
      · exact own_fine A c l0 w h hl hn hv _ (by simp [textSpec, hv, ht]; rfl)

end Go.Proofs.YteeojceloljcbaaDoor.H
