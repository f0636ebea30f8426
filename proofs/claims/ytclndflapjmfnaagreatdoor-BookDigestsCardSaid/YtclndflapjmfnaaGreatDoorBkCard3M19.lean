/- Part of the proof of BookDigestsCardSaid. -/
import Derived.Test.YtclndflapjmfnaaGreatDoorRows
import Derived.Test.YtclndflapjmfnaaGreatDoorCards
import Derived.Test.YtclndflapjmfnaaGreatDoorTie
import Derived.Test.YtclndflapjmfnaaGreatDoorBkCard3M18
import Derived.ProofKit
import Derived.Carry
import Derived.Lay
import Derived.MakeChecks
import Derived.LaidLaws
import Derived.LaidSub
import Derived.Test.YtclndflapjmfnaaGreatDoorBkCard3M13
import Derived.Test.YtclndflapjmfnaaGreatDoorBkCard3M14
import Derived.Test.YtclndflapjmfnaaGreatDoorBkCard3M15
section
set_option linter.all false
set_option linter.unusedVariables false
set_option linter.unusedSimpArgs false
set_option maxRecDepth 100000
namespace Go.Age
open Go.Den Go.Proofs Go.RowKit Go.ChangeShapes Go.WideShapes Go.ChangeAt Go.Proofs.YtclndflapjmfnaaGreatDoor
abbrev noMu : Mu := fun _ => none
abbrev stW (w : World) : Nat → Prop := fun b => b < w.heap.size
theorem v_rel {μ : Mu} {st : Nat → Prop} {w : World} (x : Value) : VRel μ st w (.v x) x := by simp only [VRel]
theorem ownT : ownKnob Tryz.prog.godebug = none := by kernel_rfl
theorem laidT : laidOutB Tryz.prog = true := by kernel_rfl
theorem sim0 (w : World) : Sim w.heap.size (stW w) [] noMu w where
  hb := Nat.le_refl _
  stb := fun b h => h
  stl := fun b id r h _ _ _ hm => by cases hm
  row := fun id r h _ hm => by cases hm
  frz := fun id r h _ _ hm => by cases hm
  ne := fun id id' r r' h h' _ _ _ _ hm _ => by cases hm
theorem vrels_lits {μ : Mu} {st : Nat → Prop} {w : World} {k : IntKind} : ∀ zs : List Int, VRels μ st w (zs.map fun n => .v (.int k n)) (zs.map fun z => Value.int k z)
  | [] => VRels.nil
  | z :: zs => VRels.cons (by simp only [VRel]) (vrels_lits zs)
theorem gl_tab {W : World} {n : String} {k : IntKind} {zs : List Int} {g : Nat} (h : Lib.TabIs Tryz.prog W n k zs) (hn : Tryz.prog.globalNamed n = some g) :
    VRel (fun _ => none) (stW W) W (.rp (zs.map fun z => .v (.int k z))) (.pointer (some ⟨g, 0, none⟩)) ∧ stW W g ∧ ∃ arr e x, W.heap[g]? = some (.cells arr e x) ∧ arr.size = (zs.map fun z => CV.v (.int k z)).length := by
  have hcell := fun i hi => h.cell hn i hi
  have hv : W.var? Tryz.prog n = some (zs.map fun z => Value.int k z).toArray := h
  have hb : ∃ arr e x, W.heap[g]? = some (.cells arr e x) ∧ arr = (zs.map fun z => Value.int k z).toArray := by
    unfold World.var? at hv
    rw [hn] at hv
    simp only [Option.bind_some, Option.bind_eq_bind] at hv
    split at hv
    · rename_i e
      cases hv
      exact ⟨_, _, _, e, rfl⟩
    · cases hv
  obtain ⟨arr, e, x, hb1, hb2⟩ := hb
  have hs : stW W g := (Array.getElem?_eq_some_iff.1 hb1).1
  refine ⟨?_, hs, arr, e, x, hb1, by rw [hb2]; simp⟩
  simp only [VRel]
  refine ⟨_, _, rfl, vrels_lits zs, fun j x hj => ⟨hs, ?_⟩⟩
  have hj' : j < zs.length := by
    have := (List.getElem?_eq_some_iff.1 hj).1
    simpa using this
  have := hcell j hj'
  rw [show (Addr.mk g 0 none).add j = ⟨g, j, none⟩ by unfold Addr.add; split <;> simp_all, this]
  simp [List.getElem?_map, hj'] at hj
  simp [← hj, List.getD, hj']
theorem flat_of {α : Type} : ∀ (rows : List (List α)) (cs : List α) (m : Nat), cs.length = rows.length * m → (∀ (i : Nat) r, rows[i]? = some r → (cs.drop (i * m)).take m = r) → cs = rows.flatten
  | [], cs, m, h, _ => List.eq_nil_of_length_eq_zero (by simpa using h)
  | r :: rows, cs, m, h, hr => by
    have h0 := hr 0 r rfl
    rw [Nat.zero_mul, List.drop_zero] at h0
    have ih := flat_of rows (cs.drop m) m (by rw [List.length_drop, h, List.length_cons, Nat.add_mul, Nat.one_mul]; omega) (fun i r' hi => by
      have := hr (i + 1) r' (by simpa using hi)
      rw [List.drop_drop, show m + i * m = (i + 1) * m by rw [Nat.add_mul, Nat.one_mul]; omega]
      exact this)
    rw [List.flatten_cons, ← ih, ← h0, List.take_append_drop]
def tabs {H : Type} (k : IntKind) (rows : List (List Int)) : DataW H := .agg (rows.map (Lib.tabData k))
theorem cells_of_tabs {H : Type} {enc : TypeId × Value → H} {P : Program} {w : World} {base : Nat} {sp : Nat → Bool} {held : Bool} {fuel : Nat} {t e f : TypeId} {n m : Nat} {k : IntKind} {cs : List Value} {rows : List (List Int)} {p : List MemPlace}
    (ht : P.underlying t = some (.array n e)) (he : P.underlying e = some (.array m f)) (hf : P.underlying f = some (.int k)) (hcf : P.cellsOf f = 1) (hce : P.cellsOf e = m) (hct : P.cellsOf t = n * m)
    (h : DataW.trod enc P w base sp held fuel t cs = some (tabs k rows, p)) : cs = rows.flatten.map fun z => Value.int k z := by
  cases fuel with
  | zero => simp [DataW.trod] at h
  | succ fuel =>
    simp only [DataW.trod, ht, hce, hct] at h
    split at h
    · rename_i hl
      obtain ⟨xs, hm, hx⟩ := Option.map_eq_some_iff.1 h
      have hxs : xs.map (·.1) = rows.map (Lib.tabData (H := H) k) := by
        have := congrArg Prod.fst hx
        simpa [tabs] using this
      have hxl : xs.length = n := by simpa using Lib.mapM_length hm
      have hzl : rows.length = n := by
        have := congrArg List.length hxs
        simp at this
        omega
      have := flat_of (rows.map fun r => r.map fun z => Value.int k z) cs m (by rw [List.length_map, hzl, hl]) (fun i r hi => by
        rw [List.getElem?_map, Option.map_eq_some_iff] at hi
        obtain ⟨zs, hz, rfl⟩ := hi
        have hin : i < n := by rw [← hzl]; exact (List.getElem?_eq_some_iff.1 hz).1
        obtain ⟨b, hb, hfb⟩ := Lib.mapM_at hm i i (by simp [hin])
        have h2 : (xs.map (·.1))[i]? = some (Lib.tabData (H := H) k zs) := by rw [hxs, List.getElem?_map, hz]; rfl
        rw [List.getElem?_map, hb] at h2
        obtain ⟨b1, b2⟩ := b
        cases h2
        exact Lib.cells_of_tab he hf hcf hce hfb)
      rw [this, List.map_flatten]
    · cases h
theorem tabIs_of_tabs {P : Program} {W : World} {name : String} {k : IntKind} {rows : List (List Int)} {rest : List (String × DataW Unit)} {g : Nat} {t e f : TypeId} {n m : Nat}
    (hg : P.globalNamed name = some g) (hty : (P.globals[g]?).map (·.type) = some t) (ht : P.underlying t = some (.array n e)) (he : P.underlying e = some (.array m f)) (hf : P.underlying f = some (.int k)) (hcf : P.cellsOf f = 1) (hce : P.cellsOf e = m) (hct : P.cellsOf t = n * m)
    (h : laidMet P ((name, tabs k rows) :: rest) W) : Lib.TabIs P W name k rows.flatten := by
  obtain ⟨ps, ⟨g', t', cs, fuel, p, q, hg', ht', hvar, hd, _, _⟩, _⟩ := h
  obtain rfl := Option.some.inj (hg.symm.trans hg')
  obtain rfl := Option.some.inj (hty.symm.trans ht')
  unfold Lib.TabIs
  rw [hvar, ← cells_of_tabs ht he hf hcf hce hct hd]
abbrev laid6 : List (String × DataW Unit) := [("math/bits.deBruijn32tab", Rows.laid_math_bits_deBruijn32tab), ("math/bits.deBruijn64tab", Rows.laid_math_bits_deBruijn64tab), ("internal/strconv.uint64pow10", Rows.laid_internal_strconv_uint64pow10), ("spile/book.first", Rows.laid_spile_book_first), ("spile/book.order", Rows.laid_spile_book_order), ("spile/book.quarters", Rows.laid_spile_book_quarters)]
def chunk (m : Nat) : Nat → List Nat → List (List Int)
  | 0, _ => []
  | n + 1, l => ((l.take m).map fun z : Nat => (z : Int)) :: chunk m n (l.drop m)
theorem gl_laid {W : World} (h : laidMetH Tryz.prog laid6 W) : Gl E (stW W) W := by
  have one : ∀ (n : String) (x : DataW Unit), (laid6.filter fun y => y.1 == n) = [(n, x)] → (laid6.filter fun x => x.2.handleName?.isSome) = [] → laidMet Tryz.prog [(n, x)] W := fun n x hx hy => by
    have h1 := laidMetH.filter (fun y => y.1 == n) h
    rw [hx] at h1
    rw [MakeChecks.laidMetH_plain _ _ _ (by
      have : ((laid6.filter fun y => y.1 == n).filter fun x => x.2.handleName?.isSome) = [] := by
        rw [List.filter_filter]
        rw [List.filter_eq_nil_iff] at hy ⊢
        intro a ha
        have := hy a ha
        simp at this ⊢
        intro h; rw [this] at h; cases h
      rw [hx] at this
      cases hq : x.handleName? with
      | none => simp [hq]
      | some z => simp [hq] at this)] at h1
    exact h1
  have p1 : laidMet Tryz.prog [("internal/strconv.uint64pow10", Lib.tabData .u64 Lib.pow10Tab)] W := one _ _ (by kernel_rfl) (by kernel_rfl)
  have p2 : laidMet Tryz.prog [("spile/book.first", Lib.tabData .u32 (firstN.map fun z : Nat => (z : Int)))] W := one _ _ (by kernel_rfl) (by kernel_rfl)
  have p3 : laidMet Tryz.prog [("spile/book.order", tabs .u8 (chunk 16 10 orderN))] W := one _ _ (by kernel_rfl) (by kernel_rfl)
  have p4 : laidMet Tryz.prog [("spile/book.quarters", tabs .u8 (chunk 4 8 quarterN))] W := one _ _ (by kernel_rfl) (by kernel_rfl)
  have t1 := gl_tab (g := 4) (Lib.tabIs_of_head (g := 4) (t := 164) (e := 67) (n := 20) (by kernel_rfl) (by kernel_rfl) (by kernel_rfl) (by kernel_rfl) (by kernel_rfl) (by kernel_rfl) p1) (by kernel_rfl)
  have t2 := gl_tab (g := 0) (Lib.tabIs_of_head (g := 0) (t := 66) (e := 65) (n := 8) (by kernel_rfl) (by kernel_rfl) (by kernel_rfl) (by kernel_rfl) (by kernel_rfl) (by kernel_rfl) p2) (by kernel_rfl)
  have t3 := gl_tab (g := 1) (tabIs_of_tabs (g := 1) (t := 90) (e := 89) (f := 5) (n := 10) (m := 16) (by kernel_rfl) (by kernel_rfl) (by kernel_rfl) (by kernel_rfl) (by kernel_rfl) (by kernel_rfl) (by kernel_rfl) (by kernel_rfl) p3) (by kernel_rfl)
  have t4 := gl_tab (g := 2) (tabIs_of_tabs (g := 2) (t := 92) (e := 91) (f := 5) (n := 8) (m := 4) (by kernel_rfl) (by kernel_rfl) (by kernel_rfl) (by kernel_rfl) (by kernel_rfl) (by kernel_rfl) (by kernel_rfl) (by kernel_rfl) p4) (by kernel_rfl)
  intro g cs hg
  have hg : (if g = 4 then some tabC else if g = 0 then some (tab32 firstN) else if g = 1 then some (tab8 orderN) else if g = 2 then some (tab8 quarterN) else none) = some cs := hg
  split at hg
  · rename_i e; subst e; cases hg; exact t1
  split at hg
  · rename_i e; subst e; cases hg; exact t2
  split at hg
  · rename_i e; subst e; cases hg; exact t3
  split at hg
  · rename_i e; subst e; cases hg; exact t4
  · cases hg
end Go.Age
end
section
set_option linter.all false
set_option maxRecDepth 1000000
namespace Go.Age
open Go.Den Go.Proofs
theorem lrun : (match den E 24 10 [] [] with | some (.v (.bool true), _) => true | _ => false) = true := by decide +kernel
theorem l10 : ∃ H1, den E 24 10 [] [] = some (.v (.bool true), H1) := by
  have := lrun
  split at this
  · rename_i H1 h; exact ⟨H1, h⟩
  · cases this
theorem cl10 (H : Hp) : callV E (den E 24) 10 [] H = some (.v (.bool true), H) := callV_plain rfl rfl rfl rfl l10 rfl
end Go.Age
end
section
set_option linter.all false
set_option linter.unusedVariables false
set_option linter.unusedSimpArgs false
set_option maxRecDepth 100000
set_option maxHeartbeats 4000000
attribute [local irreducible] Go.Den.W Go.Den.WL Go.Den.WX Go.Den.WQ Go.Den.QR Go.Den.WG Go.Den.WO Go.Den.WK Go.Den.grows Go.Den.stepOp Go.Den.callV Go.Den.den
namespace Go.Age
open Go.Den Go.Proofs
abbrev i64 (n : Int) : CV := .v (.int .i64 n)
abbrev bl (b : Bool) : CV := .v (.bool b)
abbrev strL (l : Bs) : CV := .v (.string (bs l))
theorem callV_prim {d : Nat} {g : FuncId} {p : List CV → Hp → Option (CV × Hp)} {args : List CV} {H : Hp} (h : E.prim g = some p) : callV E (den E d) g args H = p args H := by
  unfold callV; rw [h]
theorem call_dig (d : Nat) (l : Bs) (H : Hp) (hl : l.length ≤ 100000000) : callV E (den E d) 11 [strL l] H = some (strL (digestL l), H) := by
  rw [callV_prim (p := digP) rfl]
  unfold digP
  simp only
  rw [if_pos (by rw [bs_size]; exact hl)]
  rfl
theorem call_digR (d : Nat) (l : Bs) (H : Hp) (hl : l.length ≤ 100000000) : callV E (den E d) 12 [strL l] H = some (strL (digestL l), H) := by
  rw [callV_prim (p := digP) rfl]
  unfold digP
  simp only
  rw [if_pos (by rw [bs_size]; exact hl)]
  rfl
attribute [local irreducible] digestL
theorem l3 (l : Bs) : ∃ H1, den E 25 3 [strL l] [] = some (bl true, H1) := by
  have lz := bs_size l
  have ca := cl10
  have se : ∀ b : ByteArray, strEq b b = true := fun b => str_eq_iff.2 rfl
  by_cases h : l.length ≤ 400
  · refine den_ex Tryz.func3 rfl Tryz.ntmps3 (by simp) _ Tryz.results3 ?_
    repeat' (first | refine i_seq ?_ | refine k_seq ?_ | refine i_region ?_ | refine l_o ?_ | refine l_nil ?_ | (show RD _ _; refine e_do (by simp (disch := omega) only [go_sem, seval, ca, lz, call_dig, call_digR, se]; exact IsX.mk) ?_) | refine s_f ?_ | refine f_s ?_ | refine f_n ?_ | refine l_g rfl rfl ?_ | refine x2_o rfl ?_ | refine x2_n rfl ?_ | refine x2_u ?_ | refine i_cnd rfl ?_ | refine q2_true ?_ | refine q2_false ?_ | refine i_skip ?_ | refine i_label ?_ | refine i_exit ?_ | refine i_ret ?_ | refine k_seqr ?_ | refine k_seqe ?_ | refine i_block ?_ | refine k_blk ?_ | refine k_blkr ?_ | refine k_blke ?_ | refine k_blkn rfl ?_ | refine k_loope ?_ | refine k_loopr ?_ | refine s_t (by simp (disch := omega) only [go_sem, Nat.reduceLeDiff]) ?_ | refine i_draw (by decide +kernel) ?_ | refine r_rt ?_ | refine r_nm ?_ | refine k_d (by simp (disch := omega) only [go_sem, Nat.reduceLT, Nat.reduceEqDiff, ↓reduceIte, ne_eq, not_false_eq_true, Nat.reduceAdd, reduceCtorEq]) rfl ?_)
    rw [beq_self_eq_true]
  · refine den_ex Tryz.func3 rfl Tryz.ntmps3 (by simp) _ Tryz.results3 ?_
    repeat' (first | refine i_seq ?_ | refine k_seq ?_ | refine i_region ?_ | refine l_o ?_ | refine l_nil ?_ | (show RD _ _; refine e_do (by simp (disch := omega) only [go_sem, seval, ca, lz]; exact IsX.mk) ?_) | refine s_f ?_ | refine f_s ?_ | refine f_n ?_ | refine l_g rfl rfl ?_ | refine x2_o rfl ?_ | refine x2_n rfl ?_ | refine x2_u ?_ | refine i_cnd rfl ?_ | refine q2_true ?_ | refine q2_false ?_ | refine i_skip ?_ | refine i_label ?_ | refine i_exit ?_ | refine i_ret ?_ | refine k_seqr ?_ | refine k_seqe ?_ | refine i_block ?_ | refine k_blk ?_ | refine k_blkr ?_ | refine k_blke ?_ | refine k_blkn rfl ?_ | refine k_loope ?_ | refine k_loopr ?_ | refine s_t (by simp (disch := omega) only [go_sem, Nat.reduceLeDiff]) ?_ | refine i_draw (by decide +kernel) ?_ | refine r_rt ?_ | refine r_nm ?_ | refine k_d (by simp (disch := omega) only [go_sem, Nat.reduceLT, Nat.reduceEqDiff, ↓reduceIte, ne_eq, not_false_eq_true, Nat.reduceAdd, reduceCtorEq]) rfl ?_)
    rfl
end Go.Age
end
