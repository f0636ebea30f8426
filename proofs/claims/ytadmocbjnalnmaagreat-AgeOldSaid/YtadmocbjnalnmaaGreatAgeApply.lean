/- family.Apply of a first step that fills a lot: what the program does to see a fill's form; walked. -/
import Derived.Test.YtadmocbjnalnmaaGreatAgeFillB
import Derived.KernelRfl
set_option linter.all false
set_option linter.unusedVariables false
set_option linter.unusedSimpArgs false
set_option maxRecDepth 100000
set_option maxHeartbeats 8000000
namespace Go.Age
open Go.Den Go.Proofs
abbrev nilSl : CV := .v (.slice none 0 0)
abbrev stepC (f : FillD) : List CV := [i64 1, i64 1, i64 0, i64 1, i64 1, i64 1, i64 f.id, i64 f.cls, i64 f.day, strC f.org, sl f.nilA (f.al.map strC) f.al.length]
theorem k61 (d : Nat) (r0 r1 r2 r3 : Row) : den E (d + 7) 61 [.agg [nilSl, nilSl, nilSl, i64 0]] [.row r0, .row r1, .row r2, .row r3] =
    some (.op 5 0, [.row r0, .row r1, .row r2, .row r3, .row ⟨[nilSl, nilSl, nilSl, i64 0], 25, 4, true⟩, .row ⟨[nilSl, nilSl, nilSl, i64 0, i64 0], 98, 5, true⟩]) := by
  kernel_rfl
theorem k83 (d : Nat) (id : Int) (r0 r1 r2 r3 r4 r6 r7 r8 : Row) : den E (d + 9) 83 [.op 5 0, i64 1, .agg [i64 0, i64 1, i64 1, .own 9 0 1 2]]
      [.row r0, .row r1, .row r2, .row r3, .row r4, .row ⟨[nilSl, nilSl, nilSl, i64 0, i64 0], 98, 5, true⟩, .row r6, .row r7, .row r8, .row ⟨[i64 id, i64 1], 48, 2, true⟩] =
    some (.tup [], [.row r0, .row r1, .row r2, .row r3, .row r4, .row ⟨[nilSl, .own 14 0 1 4, nilSl, i64 0, i64 0], 98, 5, true⟩, .row r6, .row r7, .row r8, .row ⟨[i64 id, i64 1], 48, 2, false⟩,
      .row ⟨[i64 1, i64 1, i64 1, .own 9 0 1 2], 45, 4, true⟩, .row ⟨[i64 0, i64 0, i64 0, nilSl], 45, 4, true⟩, .row ⟨[i64 1, i64 1, i64 1, .own 9 0 1 2], 45, 4, true⟩, .row ⟨[i64 1, i64 1, i64 1, .own 9 0 1 2], 45, 4, false⟩, .row ⟨[i64 1, i64 1, i64 1, .ro [i64 id, i64 1] 1], 45, 4, true⟩]) := by
  kernel_rfl
end Go.Age
