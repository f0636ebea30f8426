/- What all laws of the seat are joined by. -/
import Derived.Test.YtadmocbjnalnmaaGreatRows
import Derived.Test.YtadmocbjnalnmaaGreatAgeOpen
import Derived.Test.YtadmocbjnalnmaaGreatAgeSort
import Derived.ProofKit
import Derived.Carry
set_option linter.all false
set_option linter.unusedVariables false
set_option linter.unusedSimpArgs false
set_option maxRecDepth 100000
namespace Go.Age
open Go.Den Go.Proofs Go.RowKit Go.ChangeShapes Go.WideShapes Go.ChangeAt Go.Proofs.YtadmocbjnalnmaaGreat
theorem ownT : ownKnob Tryz.prog.godebug = none := by kernel_rfl
theorem laidT : laidOutB Tryz.prog = true := by kernel_rfl
theorem namesOk : (Tryz.prog.funcs.toList.all fun fn => !(fn.name == "runtime.NumGoroutine")) = true := by decide +kernel
theorem envOk : EnvOk Tryz.prog E where
  ty := fun t i h => h
  code := fun f fn h => ⟨h, by
    have hm : fn ∈ Tryz.prog.funcs.toList := by
      have h : Tryz.prog.funcs[f]? = some fn := h
      rw [← Array.getElem?_toList] at h
      exact List.mem_of_getElem? h
    simpa using List.all_eq_true.1 namesOk fn hm⟩
  prim := fun f p h args H c H' hp => by
    have h : (if f = 84 then some sortedP else none) = some p := h
    split at h
    · rename_i hf
      subst hf
      cases h
      exact sortedOwed args H c H' hp
    · cases h
  primR := fun f p _ h => by cases h
  mixed := by kernel_rfl
theorem sim0 (w : World) : Sim w.heap.size (stW w) [] noMu w where
  hb := Nat.le_refl _
  stb := fun b h => h
  stl := fun b id r h _ _ _ hm => by cases hm
  row := fun id r h _ hm => by cases hm
  frz := fun id r h _ _ hm => by cases hm
  ne := fun id id' r r' h h' _ _ _ _ hm _ => by cases hm
end Go.Age
