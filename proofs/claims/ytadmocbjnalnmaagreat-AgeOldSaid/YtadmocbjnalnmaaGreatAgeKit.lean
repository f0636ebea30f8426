/- More rewriting lemmas. -/
import Derived.Test.YtadmocbjnalnmaaGreatAgeFill
set_option linter.all false
set_option linter.unusedVariables false
set_option linter.unusedSimpArgs false
namespace Go.Den
@[go_sem] theorem el_sl0 (H : Hp) (sz : Nat) (b : Bool) : elemsC sz H (sl b [] 0) = some (0, []) := by
  rcases sl_cases b [] 0 with ⟨h1, _, _⟩ | h1 <;> rw [h1]
  · rfl
  · simp [elemsC]
@[go_sem] theorem apG_zeroT {inst : Decidable True} (lv : Bool) (c2 : Prop) [Decidable c2] (a b) : @apG True inst lv c2 _ 0 a b = some a := by simp [apG]
@[go_sem] theorem zero_mul' (n : Nat) : 0 * n = 0 := Nat.zero_mul n
@[go_sem] theorem ann (n : Nat) : (n + 0) = n := rfl
end Go.Den
namespace Go.Age
open Go.Den
theorem all_al (l : List ByteArray) : (l.map strC).all CV.leaf = true := by simp [CV.leaf, valLeaf]
theorem snap_al (H : Hp) (k : Nat) : ∀ l : List ByteArray, omap (snap H (k + 1)) (l.map strC) = some (l.map strC)
  | [] => rfl
  | a :: l => by
    have ih := snap_al H k l
    have e : snap H (k + 1) (strC a) = some (strC a) := rfl
    rw [List.map_cons, omap_cons, e, ih]
theorem ids_al (H : Hp) (k : Nat) : ∀ l : List ByteArray, (l.map strC).flatMap (ids H k) = []
  | [] => rfl
  | a :: l => by
    simp only [List.map_cons, List.flatMap_cons, ids_al H k l]
    cases k <;> rfl
theorem von_al (l : List ByteArray) : (l.map strC).all vOnly = true := by simp [vOnly]
attribute [go_sem] all_al ids_al von_al
@[go_sem] theorem snap_al8 (H : Hp) (l : List ByteArray) : omap (snap H 8) (l.map strC) = some (l.map strC) := snap_al H 7 l
@[go_sem] theorem snap_al7 (H : Hp) (l : List ByteArray) : omap (snap H 7) (l.map strC) = some (l.map strC) := snap_al H 6 l
@[go_sem] theorem snap_al6 (H : Hp) (l : List ByteArray) : omap (snap H 6) (l.map strC) = some (l.map strC) := snap_al H 5 l
@[go_sem] theorem ids_al8 (H : Hp) (l : List ByteArray) : (l.map strC).flatMap (ids H 8) = [] := ids_al H 8 l
end Go.Age
