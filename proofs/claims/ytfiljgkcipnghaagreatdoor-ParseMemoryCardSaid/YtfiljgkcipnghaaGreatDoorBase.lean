/-
  Words for the walks: a struct of many cells stored and loaded at once; small facts on worlds. No condition. Over any program.
-/
import Derived.WalkKit
import Derived.Laws.Tables
import Derived.Laws.Rows
import Derived.Below
set_option linter.unusedVariables false
set_option linter.unusedSimpArgs false
namespace Go.Proofs.YtfiljgkcipnghaaGreatDoor.H
open Go.RowKit
theorem setRow_last (w : World) (old cells : Array Value) (t : TypeId) : (w.alloc (.cells old t)).setRow w.heap.size cells = w.alloc (.cells cells t) := by
  unfold World.setRow World.alloc
  congr 1
  apply Array.ext_getElem?
  intro k
  rw [Array.getElem?_modify]
  by_cases hk : w.heap.size = k
  · subst hk; simp
  · have hk' : k ≠ w.heap.size := fun e => hk e.symm
    simp [hk, hk', Array.getElem?_push]
theorem setRow_under (W : World) (g : Nat) (cells : Array Value) (B : Obj) (hg : g < W.heap.size) : (W.alloc B).setRow g cells = (W.setRow g cells).alloc B := by
  unfold World.setRow World.alloc
  congr 1
  apply Array.ext_getElem?
  intro k
  simp only [Array.getElem?_modify, Array.getElem?_push, Array.size_modify]
  by_cases hk : k = W.heap.size
  · subst hk; simp; omega
  · simp [hk]
theorem setRow_last2 (w : World) (old cells : Array Value) (t : TypeId) (B : Obj) : ((w.alloc (.cells old t)).alloc B).setRow w.heap.size cells = (w.alloc (.cells cells t)).alloc B := by
  rw [setRow_under _ _ _ _ (by simp), setRow_last]
theorem setRow_drew (w : World) (g : Nat) (cells : Array Value) : w.drew.setRow g cells = (w.setRow g cells).drew := rfl
theorem heap_drew (w : World) : w.drew.heap = w.heap := rfl

section
variable {P : Program}
end

end Go.Proofs.YtfiljgkcipnghaaGreatDoor.H
