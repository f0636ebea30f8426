/- Part of the proof of LabelBackCardSaid. -/
import Derived.Test.YtclnbgdojccheaaGreatDoorRows
import Derived.Test.YtclnbgdojccheaaGreatDoorCards
import Derived.Test.YtclnbgdojccheaaGreatDoorTie
import Derived.Test.YtclnbgdojccheaaGreatDoorLabCard9M17
import Derived.Test.YtclnbgdojccheaaGreatDoorLabCard9M19
import Derived.Stop.LaidErr
import Derived.ProofKit
import Derived.Carry
import Derived.Lay
import Derived.MakeChecks
import Derived.LaidLaws
import Derived.LaidSub
import Derived.Test.YtclnbgdojccheaaGreatDoorLabCard9M18
import Derived.Lib.ItoaNum
import Derived.Lib.ItoaMem
import Derived.Lib.AtoiAllCases
import Derived.Lib.Strings
import Derived.Lib.Bytealg
section
set_option linter.all false
set_option linter.unusedVariables false
set_option linter.unusedSimpArgs false
set_option maxRecDepth 100000
namespace Go.Age
open Go.Den Go.Proofs Go.RowKit Go.ChangeShapes Go.WideShapes Go.ChangeAt Go.Proofs.YtclnbgdojccheaaGreatDoor
theorem ownT : ownKnob Tryz.prog.godebug = none := by kernel_rfl
theorem laidT : laidOutB Tryz.prog = true := by kernel_rfl
theorem namesOk : (Tryz.prog.funcs.toList.all fun fn => !(fn.name == "runtime.NumGoroutine")) = true := by decide +kernel
theorem envOk : EnvOk Tryz.prog E where
  ty := fun t i h => h
  code := fun f fn h => ⟨h, by
    have hm : fn ∈ Tryz.prog.funcs.toList := by
      have h : Tryz.prog.funcs[f]? = some fn := h
      rw [← Array.getElem?_toList] at h
      exact List.mem_of_getElem? h
    simpa using List.all_eq_true.1 namesOk fn hm⟩
  prim := fun f p h args H c H' hp => by
    have h : primT f = some p := h
    unfold primT at h
    split at h
    · rename_i hf
      subst hf
      cases h
      exact sortedOwed args H c H' hp
    split at h
    · rename_i hf
      subst hf
      cases h
      exact sortedBOwed args H c H' hp
    split at h
    · rename_i hf
      subst hf
      cases h
      exact itoaOwed args H c H' hp
    split at h
    · rename_i hf
      subst hf
      cases h
      exact atoiOwed args H c H' hp
    split at h
    · rename_i hf
      subst hf
      cases h
      exact indexOwed args H c H' hp
    · cases h
  primR := fun f p _ h => by cases h
  mixed := by kernel_rfl
theorem sim0 (w : World) : Sim w.heap.size (stW w) [] noMu w where
  hb := Nat.le_refl _
  stb := fun b h => h
  stl := fun b id r h _ _ _ hm => by cases hm
  row := fun id r h _ hm => by cases hm
  frz := fun id r h _ _ hm => by cases hm
  ne := fun id id' r r' h h' _ _ _ _ hm _ => by cases hm
theorem vrels_lits {μ : Mu} {st : Nat → Prop} {w : World} {k : IntKind} : ∀ zs : List Int, VRels μ st w (zs.map fun n => .v (.int k n)) (zs.map fun z => Value.int k z)
  | [] => VRels.nil
  | z :: zs => VRels.cons (by simp only [VRel]) (vrels_lits zs)
theorem gl_one {W : World} {n : String} {g : Nat} {v : Value} (hn : Tryz.prog.globalNamed n = some g) (hv : W.var? Tryz.prog n = some #[v]) : stW W g ∧ (∃ arr e x, W.heap[g]? = some (.cells arr e x) ∧ arr.size = 1) ∧ W.cell? ⟨g, 0, none⟩ = some v := by
  have hc := World.var?_cell hn hv 0
  unfold World.var? at hv
  rw [hn] at hv
  simp only [Option.bind_some, Option.bind_eq_bind] at hv
  split at hv
  · rename_i e
    cases hv
    exact ⟨(Array.getElem?_eq_some_iff.1 e).1, ⟨_, _, _, e, rfl⟩, by simpa using hc⟩
  · cases hv
theorem gl_of {W : World} (h : Lib.TabIs Tryz.prog W "internal/strconv.uint64pow10" .u64 Lib.pow10Tab) (x2 x3 : Value) (h2 : W.var? Tryz.prog "strconv.ErrSyntax" = some #[.iface 254 x2]) (h3 : W.var? Tryz.prog "strconv.ErrRange" = some #[.iface 254 x3]) : Gl E (stW W) W := fun g cs hg => by
  have hg : (if g = 1 then some tabC else if g = 2 ∨ g = 3 then some [.ifc 254 .junk] else none) = some cs := hg
  split at hg
  · rename_i e
    subst e
    cases hg
    have hcell := fun i hi => h.cell (show Tryz.prog.globalNamed "internal/strconv.uint64pow10" = some 1 by kernel_rfl) i hi
    have hv : W.var? Tryz.prog "internal/strconv.uint64pow10" = some (Lib.pow10Tab.map fun z => Value.int .u64 z).toArray := h
    have hb : ∃ arr e x, W.heap[1]? = some (.cells arr e x) ∧ arr = (Lib.pow10Tab.map fun z => Value.int .u64 z).toArray := by
      unfold World.var? at hv
      rw [show Tryz.prog.globalNamed "internal/strconv.uint64pow10" = some 1 by kernel_rfl] at hv
      simp only [Option.bind_some, Option.bind_eq_bind] at hv
      split at hv
      · rename_i e
        cases hv
        exact ⟨_, _, _, e, rfl⟩
      · cases hv
    obtain ⟨arr, e, x, hb1, hb2⟩ := hb
    have hs : stW W 1 := by
      have := (Array.getElem?_eq_some_iff.1 hb1).1
      exact this
    refine ⟨?_, hs, arr, e, x, hb1, by rw [hb2]; simp [tabC]⟩
    simp only [VRel]
    refine ⟨_, _, rfl, vrels_lits Lib.pow10Tab, fun j x hj => ⟨hs, ?_⟩⟩
    have hj' : j < Lib.pow10Tab.length := by
      have := (List.getElem?_eq_some_iff.1 hj).1
      simpa using this
    have := hcell j hj'
    rw [show (Addr.mk 1 0 none).add j = ⟨1, j, none⟩ by unfold Addr.add; split <;> simp_all, this]
    simp [List.getElem?_map, hj'] at hj
    simp [← hj, List.getD, hj']
  have key : ∀ (n : String) (x : Value), Tryz.prog.globalNamed n = some g → W.var? Tryz.prog n = some #[.iface 254 x] → VRel (fun _ => none) (stW W) W (.rp [.ifc 254 .junk]) (.pointer (some ⟨g, 0, none⟩)) ∧ stW W g ∧ ∃ arr e x, W.heap[g]? = some (.cells arr e x) ∧ arr.size = 1 := fun n x hn hv => by
    obtain ⟨hs, hh, hc⟩ := gl_one hn hv
    refine ⟨?_, hs, hh⟩
    simp only [VRel]
    refine ⟨_, [.iface 254 x], rfl, VRels.cons (by simp only [VRel]; exact ⟨x, rfl, trivial⟩) VRels.nil, fun j y hj => ⟨hs, ?_⟩⟩
    match j, hj with
    | 0, hj =>
      cases hj
      simpa [Addr.add] using hc
  split at hg
  · rename_i e
    cases hg
    rcases e with e | e
    · subst e
      exact key _ x2 (by kernel_rfl) h2
    · subst e
      exact key _ x3 (by kernel_rfl) h3
  · cases hg
abbrev laid5 : List (String × DataW Unit) := [("math/bits.deBruijn32tab", Rows.laid_math_bits_deBruijn32tab), ("math/bits.deBruijn64tab", Rows.laid_math_bits_deBruijn64tab), ("internal/strconv.uint64pow10", Rows.laid_internal_strconv_uint64pow10), ("strconv.ErrRange", Rows.laid_strconv_ErrRange), ("strconv.ErrSyntax", Rows.laid_strconv_ErrSyntax)]
theorem star_es : ("*" ++ "errors.errorString" : String) = "*errors.errorString" := by decide
theorem row_es (u : TypeId) (h : Tryz.prog.typeName? 3 u = some "*errors.errorString") : u = 254 :=
  typeName_ptr_named (nm := "errors.errorString") (by rw [star_es]; kernel_rfl) (by kernel_rfl) (by decide) u (by rw [star_es]; exact h)
theorem gl_laid {W : World} (h : laidMetH Tryz.prog laid5 W) : Gl E (stW W) W := by
  have h1 := laidMetH.filter (fun x => x.1 == "internal/strconv.uint64pow10") h
  rw [MakeChecks.laidMetH_plain _ _ _ (by kernel_rfl)] at h1
  have h2 : laidMet Tryz.prog (("internal/strconv.uint64pow10", Lib.tabData .u64 Lib.pow10Tab) :: []) W := h1
  have s1 := laidMetH.filter (fun x => x.1 == "strconv.ErrSyntax") h
  rw [MakeChecks.laidMetH_plain _ _ _ (by kernel_rfl)] at s1
  have s2 : laidMet Tryz.prog (("strconv.ErrSyntax", Rows.laid_strconv_ErrSyntax) :: []) W := s1
  have r1 := laidMetH.filter (fun x => x.1 == "strconv.ErrRange") h
  rw [MakeChecks.laidMetH_plain _ _ _ (by kernel_rfl)] at r1
  have r2 : laidMet Tryz.prog (("strconv.ErrRange", Rows.laid_strconv_ErrRange) :: []) W := r1
  obtain ⟨a2, _, hv2, -, -, -⟩ := laid_sentinel (g := 2) (ti := 168) (tp := 254) (te := 256) (ts := 9) s2 (by kernel_rfl) (by kernel_rfl) Tryz.underlying168 row_es Tryz.underlying254 Tryz.underlying256 rfl rfl Tryz.underlying9 (by kernel_rfl) (by kernel_rfl)
  obtain ⟨a3, _, hv3, -, -, -⟩ := laid_sentinel (g := 3) (ti := 168) (tp := 254) (te := 256) (ts := 9) r2 (by kernel_rfl) (by kernel_rfl) Tryz.underlying168 row_es Tryz.underlying254 Tryz.underlying256 rfl rfl Tryz.underlying9 (by kernel_rfl) (by kernel_rfl)
  exact gl_of (Lib.tabIs_of_head (g := 1) (t := 212) (e := 184) (n := 20) (by kernel_rfl) (by kernel_rfl) (by kernel_rfl) (by kernel_rfl) (by kernel_rfl) (by kernel_rfl) h2) _ _ hv2 hv3
end Go.Age
end
section
set_option linter.all false
set_option linter.unusedVariables false
set_option linter.unusedSimpArgs false
set_option maxRecDepth 100000
set_option maxHeartbeats 8000000
attribute [local irreducible] Go.Den.W Go.Den.WL Go.Den.WX Go.Den.WQ Go.Den.QR Go.Den.WG Go.Den.WO Go.Den.WK Go.Den.grows Go.Den.stepOp Go.Den.callV Go.Den.den
namespace Go.Age
open Go.Den Go.Proofs
@[go_sem] theorem fold_ltF (a b : ByteArray) : Op.bytesLess a.toList b.toList = strLt a b := rfl
@[go_sem] theorem fold_eqF (a b : ByteArray) : (a.toList == b.toList) = strEq a b := rfl
structure LabD where
  y : Int
  org : ByteArray
  str : Int
  nilA : Bool
  al : List ByteArray
abbrev LabD.cells (x : LabD) : List CV := [i64 x.y, strC x.org, i64 x.str, sl x.nilA (x.al.map strC) x.al.length]
structure LabSm (x : LabD) : Prop where
  org : x.org.size ≤ 1000000
  len : x.al.length ≤ 100000
  al : ∀ i : Int, 0 ≤ i → i < x.al.length → (alAt x.al i).size ≤ 1000000
noncomputable def formS (x : LabD) : Bool := decide (0 ≤ x.y ∧ x.y ≤ 300) && (strEq x.org ⟨#[]⟩ || nameS x.org) && decide (0 ≤ x.str ∧ x.str ≤ 10000) && decide (x.al.length ≤ 1024) && alS x.al
theorem form_bad {x : LabD} (h : alS x.al = false) : CV.v (Value.bool false) = bl (formS x) := bl_congr (by simp only [formS, h, Bool.and_false])
theorem l108 (d : Nat) (b : ByteArray) (hb : b.size ≤ 1000000) : den E (d + 1) 108 [strC b] [] = some (bl (nameS b), []) := by
  refine den_eq Tryz.func108 rfl Tryz.ntmps108 (by simp) _ Tryz.results108 ?_
  repeat' (first | refine i_seq ?_ | refine k_seq ?_ | refine i_region ?_ | refine l_o ?_ | refine l_nil ?_ | (show RD _ _; refine e_do (by simp (disch := omega) only [go_sem, seval]; exact IsX.mk) ?_) | refine s_f ?_ | refine f_s ?_ | refine f_n ?_ | refine l_g rfl rfl ?_ | refine x2_o rfl ?_ | refine x2_n rfl ?_ | refine x2_u ?_ | refine i_cnd rfl ?_ | refine q2_true ?_ | refine q2_false ?_ | refine i_skip ?_ | refine i_label ?_ | refine i_exit ?_ | refine i_ret ?_ | refine k_seqr ?_ | refine k_seqe ?_ | refine i_block ?_ | refine k_blk ?_ | refine k_blkr ?_ | refine k_blke ?_ | refine k_blkn rfl ?_ | refine k_loope ?_ | refine k_loopr ?_ | refine s_t (by simp (disch := omega) only [go_sem, Nat.reduceLeDiff]) ?_ | refine i_draw (by decide +kernel) ?_ | refine r_rt ?_ | refine r_nm ?_ | refine k_d (by simp (disch := omega) only [go_sem, Nat.reduceLT, Nat.reduceEqDiff, ↓reduceIte, ne_eq, not_false_eq_true, Nat.reduceAdd, reduceCtorEq]) rfl ?_)
  refine i_loop (fun i => upd (upd (upd jk 6 (i64 i)) 5 (i64 b.size)) 0 (strC b)) (fun i : Int => [])
    (fun i => (b.size - i).toNat) (fun i => 0 ≤ i ∧ i ≤ b.size ∧ ∀ j : Int, 0 ≤ j → j < i → OkB b j) 0 (by simp only [rounds]; omega) (by simp (disch := omega) only [go_sem, seval]) rfl ⟨by omega, by omega, by omega⟩ ?_
  rintro i ⟨h1, h2, h3⟩
  by_cases hi : i < b.size
  · by_cases c1 : byteS b i < 32
    · repeat' (first | refine i_seq ?_ | refine k_seq ?_ | refine i_region ?_ | refine l_o ?_ | refine l_nil ?_ | (show RD _ _; refine e_do (by simp (disch := omega) only [go_sem, seval, wr64]; exact IsX.mk) ?_) | refine s_f ?_ | refine f_s ?_ | refine f_n ?_ | refine l_g rfl rfl ?_ | refine x2_o rfl ?_ | refine x2_n rfl ?_ | refine x2_u ?_ | refine i_cnd rfl ?_ | refine q2_true ?_ | refine q2_false ?_ | refine i_skip ?_ | refine i_label ?_ | refine i_exit ?_ | refine i_ret ?_ | refine k_seqr ?_ | refine k_seqe ?_ | refine i_block ?_ | refine k_blk ?_ | refine k_blkr ?_ | refine k_blke ?_ | refine k_blkn rfl ?_ | refine k_loope ?_ | refine k_loopr ?_ | refine s_t (by simp (disch := omega) only [go_sem, Nat.reduceLeDiff]) ?_ | refine i_draw (by decide +kernel) ?_ | refine r_rt ?_ | refine r_nm ?_ | refine k_d (by simp (disch := omega) only [go_sem, Nat.reduceLT, Nat.reduceEqDiff, ↓reduceIte, ne_eq, not_false_eq_true, Nat.reduceAdd, reduceCtorEq]) rfl ?_)
      exact ⟨(congrArg (fun x => CV.v (Value.bool x)) (name_f fun h => by have := h.ok i h1 hi; unfold OkB at this; omega)).symm, rfl⟩
    · by_cases c2 : 126 < byteS b i
      · repeat' (first | refine i_seq ?_ | refine k_seq ?_ | refine i_region ?_ | refine l_o ?_ | refine l_nil ?_ | (show RD _ _; refine e_do (by simp (disch := omega) only [go_sem, seval, wr64]; exact IsX.mk) ?_) | refine s_f ?_ | refine f_s ?_ | refine f_n ?_ | refine l_g rfl rfl ?_ | refine x2_o rfl ?_ | refine x2_n rfl ?_ | refine x2_u ?_ | refine i_cnd rfl ?_ | refine q2_true ?_ | refine q2_false ?_ | refine i_skip ?_ | refine i_label ?_ | refine i_exit ?_ | refine i_ret ?_ | refine k_seqr ?_ | refine k_seqe ?_ | refine i_block ?_ | refine k_blk ?_ | refine k_blkr ?_ | refine k_blke ?_ | refine k_blkn rfl ?_ | refine k_loope ?_ | refine k_loopr ?_ | refine s_t (by simp (disch := omega) only [go_sem, Nat.reduceLeDiff]) ?_ | refine i_draw (by decide +kernel) ?_ | refine r_rt ?_ | refine r_nm ?_ | refine k_d (by simp (disch := omega) only [go_sem, Nat.reduceLT, Nat.reduceEqDiff, ↓reduceIte, ne_eq, not_false_eq_true, Nat.reduceAdd, reduceCtorEq]) rfl ?_)
        exact ⟨(congrArg (fun x => CV.v (Value.bool x)) (name_f fun h => by have := h.ok i h1 hi; unfold OkB at this; omega)).symm, rfl⟩
      · repeat' (first | refine i_seq ?_ | refine k_seq ?_ | refine i_region ?_ | refine l_o ?_ | refine l_nil ?_ | (show RD _ _; refine e_do (by simp (disch := omega) only [go_sem, seval, wr64]; exact IsX.mk) ?_) | refine s_f ?_ | refine f_s ?_ | refine f_n ?_ | refine l_g rfl rfl ?_ | refine x2_o rfl ?_ | refine x2_n rfl ?_ | refine x2_u ?_ | refine i_cnd rfl ?_ | refine q2_true ?_ | refine q2_false ?_ | refine i_skip ?_ | refine i_label ?_ | refine i_exit ?_ | refine i_ret ?_ | refine k_seqr ?_ | refine k_seqe ?_ | refine i_block ?_ | refine k_blk ?_ | refine k_blkr ?_ | refine k_blke ?_ | refine k_blkn rfl ?_ | refine k_loope ?_ | refine k_loopr ?_ | refine s_t (by simp (disch := omega) only [go_sem, Nat.reduceLeDiff]) ?_ | refine i_draw (by decide +kernel) ?_ | refine r_rt ?_ | refine r_nm ?_ | refine k_d (by simp (disch := omega) only [go_sem, Nat.reduceLT, Nat.reduceEqDiff, ↓reduceIte, ne_eq, not_false_eq_true, Nat.reduceAdd, reduceCtorEq]) rfl ?_)
        refine k_loop (i + 1) (by omega) (by simp (disch := omega) only [go_sem, seval, wr64]; try rfl) rfl ⟨by omega, by omega, fun j j1 j2 => ?_⟩
        by_cases e : j = i
        · subst e; exact ⟨by omega, by omega⟩
        · exact h3 j j1 (by omega)
  · have : i = b.size := by omega
    subst this
    by_cases l1 : 1 ≤ b.size
    · by_cases l2 : b.size ≤ 64
      · by_cases l3 : byteS b 0 = 32
        · repeat' (first | refine i_seq ?_ | refine k_seq ?_ | refine i_region ?_ | refine l_o ?_ | refine l_nil ?_ | (show RD _ _; refine e_do (by simp (disch := omega) only [go_sem, seval, wr64]; exact IsX.mk) ?_) | refine s_f ?_ | refine f_s ?_ | refine f_n ?_ | refine l_g rfl rfl ?_ | refine x2_o rfl ?_ | refine x2_n rfl ?_ | refine x2_u ?_ | refine i_cnd rfl ?_ | refine q2_true ?_ | refine q2_false ?_ | refine i_skip ?_ | refine i_label ?_ | refine i_exit ?_ | refine i_ret ?_ | refine k_seqr ?_ | refine k_seqe ?_ | refine i_block ?_ | refine k_blk ?_ | refine k_blkr ?_ | refine k_blke ?_ | refine k_blkn rfl ?_ | refine k_loope ?_ | refine k_loopr ?_ | refine s_t (by simp (disch := omega) only [go_sem, Nat.reduceLeDiff]) ?_ | refine i_draw (by decide +kernel) ?_ | refine r_rt ?_ | refine r_nm ?_ | refine k_d (by simp (disch := omega) only [go_sem, Nat.reduceLT, Nat.reduceEqDiff, ↓reduceIte, ne_eq, not_false_eq_true, Nat.reduceAdd, reduceCtorEq]) rfl ?_)
          exact ⟨(congrArg (fun x => CV.v (Value.bool x)) (name_f fun h => h.f l3)).symm, rfl⟩
        · by_cases l4 : byteS b (b.size - 1) = 32
          · repeat' (first | refine i_seq ?_ | refine k_seq ?_ | refine i_region ?_ | refine l_o ?_ | refine l_nil ?_ | (show RD _ _; refine e_do (by simp (disch := omega) only [go_sem, seval, wr64]; exact IsX.mk) ?_) | refine s_f ?_ | refine f_s ?_ | refine f_n ?_ | refine l_g rfl rfl ?_ | refine x2_o rfl ?_ | refine x2_n rfl ?_ | refine x2_u ?_ | refine i_cnd rfl ?_ | refine q2_true ?_ | refine q2_false ?_ | refine i_skip ?_ | refine i_label ?_ | refine i_exit ?_ | refine i_ret ?_ | refine k_seqr ?_ | refine k_seqe ?_ | refine i_block ?_ | refine k_blk ?_ | refine k_blkr ?_ | refine k_blke ?_ | refine k_blkn rfl ?_ | refine k_loope ?_ | refine k_loopr ?_ | refine s_t (by simp (disch := omega) only [go_sem, Nat.reduceLeDiff]) ?_ | refine i_draw (by decide +kernel) ?_ | refine r_rt ?_ | refine r_nm ?_ | refine k_d (by simp (disch := omega) only [go_sem, Nat.reduceLT, Nat.reduceEqDiff, ↓reduceIte, ne_eq, not_false_eq_true, Nat.reduceAdd, reduceCtorEq]) rfl ?_)
            exact ⟨(congrArg (fun x => CV.v (Value.bool x)) (name_f fun h => h.l l4)).symm, rfl⟩
          · repeat' (first | refine i_seq ?_ | refine k_seq ?_ | refine i_region ?_ | refine l_o ?_ | refine l_nil ?_ | (show RD _ _; refine e_do (by simp (disch := omega) only [go_sem, seval, wr64]; exact IsX.mk) ?_) | refine s_f ?_ | refine f_s ?_ | refine f_n ?_ | refine l_g rfl rfl ?_ | refine x2_o rfl ?_ | refine x2_n rfl ?_ | refine x2_u ?_ | refine i_cnd rfl ?_ | refine q2_true ?_ | refine q2_false ?_ | refine i_skip ?_ | refine i_label ?_ | refine i_exit ?_ | refine i_ret ?_ | refine k_seqr ?_ | refine k_seqe ?_ | refine i_block ?_ | refine k_blk ?_ | refine k_blkr ?_ | refine k_blke ?_ | refine k_blkn rfl ?_ | refine k_loope ?_ | refine k_loopr ?_ | refine s_t (by simp (disch := omega) only [go_sem, Nat.reduceLeDiff]) ?_ | refine i_draw (by decide +kernel) ?_ | refine r_rt ?_ | refine r_nm ?_ | refine k_d (by simp (disch := omega) only [go_sem, Nat.reduceLT, Nat.reduceEqDiff, ↓reduceIte, ne_eq, not_false_eq_true, Nat.reduceAdd, reduceCtorEq]) rfl ?_)
            exact ⟨(congrArg (fun x => CV.v (Value.bool x)) (name_t ⟨l1, l2, h3, l3, l4⟩)).symm, rfl⟩
      · repeat' (first | refine i_seq ?_ | refine k_seq ?_ | refine i_region ?_ | refine l_o ?_ | refine l_nil ?_ | (show RD _ _; refine e_do (by simp (disch := omega) only [go_sem, seval, wr64]; exact IsX.mk) ?_) | refine s_f ?_ | refine f_s ?_ | refine f_n ?_ | refine l_g rfl rfl ?_ | refine x2_o rfl ?_ | refine x2_n rfl ?_ | refine x2_u ?_ | refine i_cnd rfl ?_ | refine q2_true ?_ | refine q2_false ?_ | refine i_skip ?_ | refine i_label ?_ | refine i_exit ?_ | refine i_ret ?_ | refine k_seqr ?_ | refine k_seqe ?_ | refine i_block ?_ | refine k_blk ?_ | refine k_blkr ?_ | refine k_blke ?_ | refine k_blkn rfl ?_ | refine k_loope ?_ | refine k_loopr ?_ | refine s_t (by simp (disch := omega) only [go_sem, Nat.reduceLeDiff]) ?_ | refine i_draw (by decide +kernel) ?_ | refine r_rt ?_ | refine r_nm ?_ | refine k_d (by simp (disch := omega) only [go_sem, Nat.reduceLT, Nat.reduceEqDiff, ↓reduceIte, ne_eq, not_false_eq_true, Nat.reduceAdd, reduceCtorEq]) rfl ?_)
        exact ⟨(congrArg (fun x => CV.v (Value.bool x)) (name_f fun h => l2 h.l2)).symm, rfl⟩
    · repeat' (first | refine i_seq ?_ | refine k_seq ?_ | refine i_region ?_ | refine l_o ?_ | refine l_nil ?_ | (show RD _ _; refine e_do (by simp (disch := omega) only [go_sem, seval, wr64]; exact IsX.mk) ?_) | refine s_f ?_ | refine f_s ?_ | refine f_n ?_ | refine l_g rfl rfl ?_ | refine x2_o rfl ?_ | refine x2_n rfl ?_ | refine x2_u ?_ | refine i_cnd rfl ?_ | refine q2_true ?_ | refine q2_false ?_ | refine i_skip ?_ | refine i_label ?_ | refine i_exit ?_ | refine i_ret ?_ | refine k_seqr ?_ | refine k_seqe ?_ | refine i_block ?_ | refine k_blk ?_ | refine k_blkr ?_ | refine k_blke ?_ | refine k_blkn rfl ?_ | refine k_loope ?_ | refine k_loopr ?_ | refine s_t (by simp (disch := omega) only [go_sem, Nat.reduceLeDiff]) ?_ | refine i_draw (by decide +kernel) ?_ | refine r_rt ?_ | refine r_nm ?_ | refine k_d (by simp (disch := omega) only [go_sem, Nat.reduceLT, Nat.reduceEqDiff, ↓reduceIte, ne_eq, not_false_eq_true, Nat.reduceAdd, reduceCtorEq]) rfl ?_)
      exact ⟨(congrArg (fun x => CV.v (Value.bool x)) (name_f fun h => l1 h.l1)).symm, rfl⟩
@[go_sem] theorem cl108 (d : Nat) (b : ByteArray) (H : Hp) (hb : b.size ≤ 1000000) : callV E (den E (d + 1)) 108 [strC b] H = some (bl (nameS b), H) := callV_plain rfl rfl rfl rfl ⟨_, l108 d b hb⟩ rfl
theorem l66 (d : Nat) (x : LabD) (hs : LabSm x) : ∃ H0, den E (d + 2) 66 [.agg x.cells] [] = some (bl (formS x), H0) := by
  refine den_ex Tryz.func66 rfl Tryz.ntmps66 (by simp) _ Tryz.results66 ?_
  have s1 := hs.org
  have s2 := hs.len
  repeat' (first | refine i_seq ?_ | refine k_seq ?_ | refine i_region ?_ | refine l_o ?_ | refine l_nil ?_ | (show RD _ _; refine e_do (by simp (disch := omega) only [go_sem, seval]; exact IsX.mk) ?_) | refine s_f ?_ | refine f_s ?_ | refine f_n ?_ | refine l_g rfl rfl ?_ | refine x2_o rfl ?_ | refine x2_n rfl ?_ | refine x2_u ?_ | refine i_cnd rfl ?_ | refine q2_true ?_ | refine q2_false ?_ | refine i_skip ?_ | refine i_label ?_ | refine i_exit ?_ | refine i_ret ?_ | refine k_seqr ?_ | refine k_seqe ?_ | refine i_block ?_ | refine k_blk ?_ | refine k_blkr ?_ | refine k_blke ?_ | refine k_blkn rfl ?_ | refine k_loope ?_ | refine k_loopr ?_ | refine s_t (by simp (disch := omega) only [go_sem, Nat.reduceLeDiff]) ?_ | refine i_draw (by decide +kernel) ?_ | refine r_rt ?_ | refine r_nm ?_ | refine k_d (by simp (disch := omega) only [go_sem, Nat.reduceLT, Nat.reduceEqDiff, ↓reduceIte, ne_eq, not_false_eq_true, Nat.reduceAdd, reduceCtorEq]) rfl ?_)
  refine i_loop (fun i => upd (upd (upd (upd jk 8 (i64 i)) 7 (i64 x.al.length)) 6 (sl x.nilA (x.al.map strC) x.al.length)) 1 (.op 0 0)) (fun i : Int => [.row ⟨x.cells, 40, 4, true⟩])
    (fun i => (x.al.length - i).toNat) (AlTo x.al) 0 (by simp only [rounds]; omega) (by simp (disch := omega) only [go_sem, seval]) (by simp (disch := omega) only [go_sem, seval]) (AlTo.zero _) ?_
  intro i hto
  have h1 := hto.1
  have h2 := hto.2.1
  by_cases hi : i < x.al.length
  · have s3 := hs.al i h1 hi
    by_cases c1 : nameS (alAt x.al i) = true
    · repeat' (first | (first | refine i_seq ?_ | refine k_seq ?_ | refine i_region ?_ | refine l_o ?_ | refine l_nil ?_ | (show RD _ _; refine e_do (by simp (disch := omega) only [go_sem, seval, wr64, c1]; exact IsX.mk) ?_) | refine s_f ?_ | refine f_s ?_ | refine f_n ?_ | refine l_g rfl rfl ?_ | refine x2_o rfl ?_ | refine x2_n rfl ?_ | refine x2_u ?_ | refine i_cnd rfl ?_ | refine q2_true ?_ | refine q2_false ?_ | refine i_skip ?_ | refine i_label ?_ | refine i_exit ?_ | refine i_ret ?_ | refine k_seqr ?_ | refine k_seqe ?_ | refine i_block ?_ | refine k_blk ?_ | refine k_blkr ?_ | refine k_blke ?_ | refine k_blkn rfl ?_ | refine k_loope ?_ | refine k_loopr ?_ | refine s_t (by simp (disch := omega) only [go_sem, Nat.reduceLeDiff]) ?_ | refine i_draw (by decide +kernel) ?_ | refine r_rt ?_ | refine r_nm ?_ | refine k_d (by simp (disch := omega) only [go_sem, Nat.reduceLT, Nat.reduceEqDiff, ↓reduceIte, ne_eq, not_false_eq_true, Nat.reduceAdd, reduceCtorEq]) rfl ?_) | (first | refine x2_split (fun h => ?_) (fun h => ?_) | refine q2_split (fun h => ?_) (fun h => ?_)) <;> (try simp only [beq_iff_eq, bne_iff_ne, beq_eq_false_iff_ne, bne_eq_false_iff_eq, ne_eq, decide_eq_true_eq, decide_eq_false_iff_not, gt_iff_lt, ge_iff_le, Bool.not_eq_true', Bool.not_eq_false'] at h))
      · exact form_bad (al_bad2 (by assumption) hi (by assumption))
      · exact k_loop (i + 1) (by omega) (by simp (disch := omega) only [go_sem, seval, wr64]) rfl (hto.next hi (name_iff.1 c1) fun _ => by assumption)
      · exact k_loop (i + 1) (by omega) (by simp (disch := omega) only [go_sem, seval, wr64]) rfl (hto.next hi (name_iff.1 c1) fun _ => by omega)
    · have c1' := Bool.eq_false_iff.2 c1
      repeat' (first | refine i_seq ?_ | refine k_seq ?_ | refine i_region ?_ | refine l_o ?_ | refine l_nil ?_ | (show RD _ _; refine e_do (by simp (disch := omega) only [go_sem, seval, wr64, c1']; exact IsX.mk) ?_) | refine s_f ?_ | refine f_s ?_ | refine f_n ?_ | refine l_g rfl rfl ?_ | refine x2_o rfl ?_ | refine x2_n rfl ?_ | refine x2_u ?_ | refine i_cnd rfl ?_ | refine q2_true ?_ | refine q2_false ?_ | refine i_skip ?_ | refine i_label ?_ | refine i_exit ?_ | refine i_ret ?_ | refine k_seqr ?_ | refine k_seqe ?_ | refine i_block ?_ | refine k_blk ?_ | refine k_blkr ?_ | refine k_blke ?_ | refine k_blkn rfl ?_ | refine k_loope ?_ | refine k_loopr ?_ | refine s_t (by simp (disch := omega) only [go_sem, Nat.reduceLeDiff]) ?_ | refine i_draw (by decide +kernel) ?_ | refine r_rt ?_ | refine r_nm ?_ | refine k_d (by simp (disch := omega) only [go_sem, Nat.reduceLT, Nat.reduceEqDiff, ↓reduceIte, ne_eq, not_false_eq_true, Nat.reduceAdd, reduceCtorEq]) rfl ?_)
      exact form_bad (al_bad1 h1 hi c1')
  · have : i = x.al.length := by omega
    subst this
    have ha := hto.last
    repeat' (first | (first | refine i_seq ?_ | refine k_seq ?_ | refine i_region ?_ | refine l_o ?_ | refine l_nil ?_ | (show RD _ _; refine e_do (by simp (disch := omega) only [go_sem, seval, wr64]; exact IsX.mk) ?_) | refine s_f ?_ | refine f_s ?_ | refine f_n ?_ | refine l_g rfl rfl ?_ | refine x2_o rfl ?_ | refine x2_n rfl ?_ | refine x2_u ?_ | refine i_cnd rfl ?_ | refine q2_true ?_ | refine q2_false ?_ | refine i_skip ?_ | refine i_label ?_ | refine i_exit ?_ | refine i_ret ?_ | refine k_seqr ?_ | refine k_seqe ?_ | refine i_block ?_ | refine k_blk ?_ | refine k_blkr ?_ | refine k_blke ?_ | refine k_blkn rfl ?_ | refine k_loope ?_ | refine k_loopr ?_ | refine s_t (by simp (disch := omega) only [go_sem, Nat.reduceLeDiff]) ?_ | refine i_draw (by decide +kernel) ?_ | refine r_rt ?_ | refine r_nm ?_ | refine k_d (by simp (disch := omega) only [go_sem, Nat.reduceLT, Nat.reduceEqDiff, ↓reduceIte, ne_eq, not_false_eq_true, Nat.reduceAdd, reduceCtorEq]) rfl ?_) | (first | refine x2_split (fun h => ?_) (fun h => ?_) | refine q2_split (fun h => ?_) (fun h => ?_)) <;> (try simp only [beq_iff_eq, bne_iff_ne, beq_eq_false_iff_ne, bne_eq_false_iff_eq, ne_eq, decide_eq_true_eq, decide_eq_false_iff_not, gt_iff_lt, ge_iff_le, Bool.not_eq_true', Bool.not_eq_false'] at h))
    all_goals refine bl_congr ?_
    all_goals simp_all [formS]
    all_goals omega
@[go_sem] theorem cl66 (d : Nat) (x : LabD) (H : Hp) (hs : LabSm x) : callV E (den E (d + 2)) 66 [.agg x.cells] H = some (bl (formS x), H) := callV_plain rfl rfl rfl (by simp (disch := omega) only [go_sem, seval]) (l66 d x hs) rfl
end Go.Age
end
section
set_option linter.all false
set_option linter.unusedVariables false
set_option maxRecDepth 100000
set_option maxHeartbeats 8000000
namespace Go.Age
open Go.Den
abbrev Bs := List UInt8
def bs (l : Bs) : ByteArray := ⟨l.toArray⟩
theorem bs_data (l : Bs) : (bs l).data.toList = l := rfl
theorem of_bs (b : ByteArray) : bs b.data.toList = b := rfl
theorem bs_size (l : Bs) : (bs l).size = l.length := by simp [bs, ByteArray.size]
theorem bs_inj {a b : Bs} (h : bs a = bs b) : a = b := by rw [← bs_data a, h, bs_data]
theorem bs_append (a b : Bs) : bs a ++ bs b = bs (a ++ b) := by
  apply ByteArray.ext
  simp [bs]
theorem bs_extract (l : Bs) (i j : Nat) : (bs l).extract i j = bs ((l.take j).drop i) := by
  apply ByteArray.ext
  rw [ByteArray.data_extract]
  apply Array.ext'
  simp [bs, List.extract_eq_take_drop, List.take_drop]
  by_cases h : i ≤ j
  · rw [Nat.add_sub_cancel' h]
  · rw [List.drop_eq_nil_of_le (by simp; omega), List.drop_eq_nil_of_le (by simp; omega)]
theorem bs_eq (a b : Bs) : strEq (bs a) (bs b) = decide (a = b) := by
  rw [Bool.eq_iff_iff, str_eq_iff, decide_eq_true_eq]
  exact ⟨bs_inj, fun h => by rw [h]⟩
def cutL (c : UInt8) : Bs → Bs × Bs × Bool
  | [] => ([], [], false)
  | x :: l => if x = c then ([], l, true) else (x :: (cutL c l).1, (cutL c l).2.1, (cutL c l).2.2)
theorem cut_hit {c : UInt8} : ∀ {a : Bs} (b : Bs), c ∉ a → cutL c (a ++ c :: b) = (a, b, true)
  | [], b, _ => by simp [cutL]
  | x :: a, b, h => by
    simp only [List.mem_cons, not_or] at h
    simp only [List.cons_append, cutL, if_neg (Ne.symm h.1), cut_hit b h.2]
theorem cut_cases (c : UInt8) : ∀ l : Bs, (c ∉ l ∧ cutL c l = (l, [], false)) ∨ ∃ a b, c ∉ a ∧ l = a ++ c :: b ∧ cutL c l = (a, b, true)
  | [] => .inl ⟨by simp, rfl⟩
  | x :: l => by
    by_cases e : x = c
    · exact .inr ⟨[], l, by simp, by rw [e]; rfl, by simp [cutL, e]⟩
    · rcases cut_cases c l with ⟨h1, h2⟩ | ⟨a, b, h1, h2, h3⟩
      · refine .inl ⟨by simp only [List.mem_cons, not_or]; exact ⟨Ne.symm e, h1⟩, ?_⟩
        simp only [cutL, if_neg e, h2]
      · refine .inr ⟨x :: a, b, by simp only [List.mem_cons, not_or]; exact ⟨Ne.symm e, h1⟩, by rw [h2]; rfl, ?_⟩
        simp only [cutL, if_neg e, h3]
theorem index_miss {c : UInt8} : ∀ {l : Bs}, c ∉ l → Lib.indexByte l c = -1
  | [], _ => rfl
  | x :: l, h => by
    simp only [List.mem_cons, not_or] at h
    have e : (x == c) = false := by simpa using Ne.symm h.1
    simp [Lib.indexByte, e, index_miss h.2]
theorem index_hit {c : UInt8} : ∀ {a : Bs} (b : Bs), c ∉ a → Lib.indexByte (a ++ c :: b) c = a.length
  | [], b, _ => by simp [Lib.indexByte]
  | x :: a, b, h => by
    simp only [List.mem_cons, not_or] at h
    have e : (x == c) = false := by simpa using Ne.symm h.1
    have ih := index_hit b h.2
    have e2 : (Lib.indexByte (a ++ c :: b) c == -1) = false := by rw [ih]; simp
    simp [Lib.indexByte, e, e2, ih]
def isDig (c : UInt8) : Bool := decide (48 ≤ c.toNat ∧ c.toNat ≤ 57)
def digS (a : Nat) (c : UInt8) : Nat := a * 10 + (c.toNat - 48)
def numV (a : Nat) (l : Bs) : Nat := l.foldl digS a
theorem numV_nil (a : Nat) : numV a [] = a := by unfold numV; rw [List.foldl_nil]
theorem numV_cons (a : Nat) (c : UInt8) (l : Bs) : numV a (c :: l) = numV (a * 10 + (c.toNat - 48)) l := by unfold numV; rw [List.foldl_cons]; unfold digS; with_reducible rfl
theorem numV_app (l m : Bs) : ∀ a : Nat, numV a (l ++ m) = numV (numV a l) m := by
  induction l with
  | nil => intro a; rw [List.nil_append, numV_nil]
  | cons c l ih => intro a; rw [List.cons_append, numV_cons, numV_cons, ih]
theorem numV_one (a : Nat) (c : UInt8) : numV a [c] = a * 10 + (c.toNat - 48) := by rw [numV_cons, numV_nil]
attribute [irreducible] numV
theorem dig_ofNat {d : Nat} (h : d < 10) : (UInt8.ofNat (48 + d)).toNat = 48 + d := by
  rw [UInt8.toNat_ofNat']; omega
theorem dec_all : ∀ (k u : Nat), u < k → (Lib.decDigits u).all isDig = true ∧ numV 0 (Lib.decDigits u) = u ∧ Lib.decDigits u ≠ [] ∧ (10 ≤ u → ∃ c l, Lib.decDigits u = c :: l ∧ c.toNat ≠ 48)
  | 0, u, h => by omega
  | k + 1, u, h => by
    by_cases h1 : u < 10
    · rw [Lib.decDigits, dif_pos h1]
      have e := dig_ofNat h1
      refine ⟨by rw [List.all_cons, List.all_nil, Bool.and_true, isDig, e, decide_eq_true_eq]; omega, by rw [numV_one, e]; omega, by simp, fun h => by omega⟩
    · obtain ⟨a1, a2, a3, a4⟩ := dec_all k (u / 10) (by omega)
      rw [Lib.decDigits, dif_neg h1]
      have e := dig_ofNat (show u % 10 < 10 by omega)
      refine ⟨by rw [List.all_append, a1, List.all_cons, List.all_nil, Bool.and_true, Bool.true_and, isDig, e, decide_eq_true_eq]; omega, by rw [numV_app, a2, numV_one, e]; omega, by simp, fun _ => ?_⟩
      by_cases h2 : 10 ≤ u / 10
      · obtain ⟨c, l, h3, h4⟩ := a4 h2
        exact ⟨c, l ++ [UInt8.ofNat (48 + u % 10)], by rw [h3]; rfl, h4⟩
      · rw [Lib.decDigits, dif_pos (by omega)]
        exact ⟨_, _, rfl, by rw [dig_ofNat (by omega)]; omega⟩
theorem numV_lt : ∀ (l : Bs) (a : Nat), l.all isDig = true → numV a l < (a + 1) * 10 ^ l.length
  | [], a, _ => by rw [numV_nil, List.length_nil, Nat.pow_zero]; omega
  | c :: l, a, h => by
    simp only [List.all_cons, Bool.and_eq_true, isDig, decide_eq_true_eq] at h
    have ih := numV_lt l (a * 10 + (c.toNat - 48)) h.2
    rw [numV_cons, List.length_cons]
    have e : (a * 10 + (c.toNat - 48) + 1) * 10 ^ l.length ≤ ((a + 1) * 10) * 10 ^ l.length := Nat.mul_le_mul_right _ (by omega)
    rw [Nat.pow_succ]
    have e2 : (a + 1) * (10 ^ l.length * 10) = ((a + 1) * 10) * 10 ^ l.length := by rw [Nat.mul_comm (10 ^ l.length), Nat.mul_assoc]
    omega
theorem dec_of : ∀ (k : Nat) (l : Bs), l.length ≤ k → l.all isDig = true → l ≠ [] → (l.length = 1 ∨ ∃ c r, l = c :: r ∧ c.toNat ≠ 48) → Lib.decDigits (numV 0 l) = l ∧ (2 ≤ l.length → 10 ≤ numV 0 l)
  | 0, l, hk, _, hne, _ => by cases l <;> simp_all
  | k + 1, l, hk, hd, hne, hz => by
    rcases List.eq_nil_or_concat l with rfl | ⟨m, c, rfl⟩
    · exact absurd rfl hne
    · rw [List.concat_eq_append] at *
      simp only [List.all_append, Bool.and_eq_true, List.all_cons, List.all_nil, Bool.and_true] at hd
      have hc : 48 ≤ c.toNat ∧ c.toNat ≤ 57 := by simpa [isDig] using hd.2
      have ec : UInt8.ofNat (48 + (c.toNat - 48)) = c := by
        apply UInt8.toNat_inj.1
        rw [dig_ofNat (by omega)]; omega
      rw [numV_app, numV_cons, numV_nil]
      by_cases hm : m = []
      · subst hm
        rw [numV_nil, Nat.zero_mul, Nat.zero_add, List.nil_append]
        rw [Lib.decDigits, dif_pos (by omega), ec]
        exact ⟨rfl, fun h => by simp at h⟩
      · obtain ⟨c0, r0, rfl⟩ : ∃ c0 r0, m = c0 :: r0 := by cases m with
          | nil => exact absurd rfl hm
          | cons a b => exact ⟨a, b, rfl⟩
        have hz0 : c0.toNat ≠ 48 := by
          rcases hz with h | ⟨c1, r1, h1, h2⟩
          · simp at h
          · simp only [List.cons_append, List.cons.injEq] at h1
            rw [h1.1]; exact h2
        have hd0 : 48 ≤ c0.toNat ∧ c0.toNat ≤ 57 := by
          have := hd.1
          simp only [List.all_cons, Bool.and_eq_true, isDig, decide_eq_true_eq] at this
          exact this.1
        obtain ⟨i1, i2⟩ := dec_of k (c0 :: r0) (by simp at hk ⊢; omega) hd.1 (by simp) (.inr ⟨c0, r0, rfl, hz0⟩)
        have hpos : 1 ≤ numV 0 (c0 :: r0) := by
          by_cases h2 : 2 ≤ (c0 :: r0).length
          · have := i2 h2; omega
          · have : r0 = [] := by cases r0 <;> simp_all
            subst this
            rw [numV_one]
            exact (fun z (a : z ≠ 48) (b : 48 ≤ z) => by omega : ∀ z : Nat, z ≠ 48 → 48 ≤ z → 1 ≤ 0 * 10 + (z - 48)) _ hz0 hd0.1
        have e1 : (numV 0 (c0 :: r0) * 10 + (c.toNat - 48)) / 10 = numV 0 (c0 :: r0) := by omega
        have e2 : (numV 0 (c0 :: r0) * 10 + (c.toNat - 48)) % 10 = c.toNat - 48 := by omega
        rw [Lib.decDigits, dif_neg (by omega), e1, e2, i1, ec]
        exact ⟨rfl, fun _ => by omega⟩
open Classical in
noncomputable def numO (s : Bs) : Option Int := if s ≠ [] ∧ s.length ≤ 5 ∧ s.all isDig = true ∧ (s.length = 1 ∨ ∃ c r, s = c :: r ∧ c.toNat ≠ 48) then some (numV 0 s) else none
theorem itoa_nn {n : Int} (h : 0 ≤ n) : Lib.itoa n = Lib.decDigits n.toNat := by unfold Lib.itoa; rw [if_neg (by omega)]
theorem num_iff {s : Bs} {n : Int} : numO s = some n ↔ (0 ≤ n ∧ n ≤ 99999) ∧ s = Lib.itoa n := by
  unfold numO
  constructor
  · intro h
    split at h
    · rename_i hc
      obtain ⟨h1, h2, h3, h4⟩ := hc
      cases h
      have lt := numV_lt s 0 h3
      have le : (10 : Nat) ^ s.length ≤ 10 ^ 5 := Nat.pow_le_pow_right (by omega) h2
      refine ⟨⟨by omega, by omega⟩, ?_⟩
      rw [itoa_nn (by omega)]
      exact (dec_of s.length s (Nat.le_refl _) h3 h1 h4).1.symm
    · cases h
  · rintro ⟨⟨h0, h1⟩, rfl⟩
    rw [itoa_nn h0]
    obtain ⟨a1, a2, a3, a4⟩ := dec_all (n.toNat + 1) n.toNat (by omega)
    have hl : (Lib.decDigits n.toNat).length ≤ 5 := by
      have := Lib.decDigits_length n.toNat
      rw [this]
      rcases Nat.lt_or_ge n.toNat 10 with h | h
      · rw [Lib.nDigits_small h]; omega
      · rcases Nat.lt_or_ge n.toNat 100 with h2 | h2
        · rw [Lib.nDigits_unique 1 _ (by omega) (by omega)]; omega
        · rcases Nat.lt_or_ge n.toNat 1000 with h3 | h3
          · rw [Lib.nDigits_unique 2 _ (by omega) (by omega)]; omega
          · rcases Nat.lt_or_ge n.toNat 10000 with h4 | h4
            · rw [Lib.nDigits_unique 3 _ (by omega) (by omega)]; omega
            · rw [Lib.nDigits_unique 4 _ (by omega) (by omega)]; omega
    have hz : (Lib.decDigits n.toNat).length = 1 ∨ ∃ c r, Lib.decDigits n.toNat = c :: r ∧ c.toNat ≠ 48 := by
      by_cases h : 10 ≤ n.toNat
      · exact .inr (a4 h)
      · left
        rw [Lib.decDigits, dif_pos (by omega)]; rfl
    rw [if_pos ⟨a3, hl, a1, hz⟩, a2, Int.toNat_of_nonneg h0]
theorem parse_digs : ∀ (l : Bs) (a : Nat), l.all isDig = true → numV a l < 1000000000 → Lib.parseUint10 a l = .ok (numV a l)
  | [], a, _, _ => by rw [numV_nil, Lib.parseUint10]
  | c :: l, a, h, hv => by
    simp only [List.all_cons, Bool.and_eq_true, isDig, decide_eq_true_eq] at h
    have hle : ∀ (l : Bs) (a : Nat), a ≤ numV a l := by
      intro l
      induction l with
      | nil => intro a; exact Nat.le_of_eq (numV_nil a).symm
      | cons c l ih => intro a; have := ih (a * 10 + (c.toNat - 48)); rw [numV_cons]; omega
    have h2 := hle l (a * 10 + (c.toNat - 48))
    rw [numV_cons] at hv ⊢
    simp only [Lib.parseUint10]
    rw [if_pos h.1, if_neg (by omega), if_neg (by omega)]
    exact parse_digs l _ h.2 hv
theorem atoi_itoa {n : Int} (h0 : 0 ≤ n) (h1 : n ≤ 99999) : Lib.atoiAll (Lib.itoa n) = .ok n := by
  rw [itoa_nn h0]
  obtain ⟨a1, a2, a3, a4⟩ := dec_all (n.toNat + 1) n.toNat (by omega)
  have hp := parse_digs (Lib.decDigits n.toNat) 0 a1 (by omega)
  rw [a2] at hp
  cases hd : Lib.decDigits n.toNat with
  | nil => exact absurd hd a3
  | cons c r =>
    rw [hd] at hp a1
    simp only [List.all_cons, Bool.and_eq_true, isDig, decide_eq_true_eq] at a1
    rw [Lib.atoiAll_plain c r (by omega) (by omega), Lib.parseMag, if_neg (by simp), hp]
    show (if 9223372036854775808 ≤ n.toNat then Lib.NumEnd.range else Lib.NumEnd.ok (n.toNat : Int)) = _
    rw [if_neg (by omega), Int.toNat_of_nonneg h0]
theorem itoa_digs {n : Int} (h : 0 ≤ n) : ∀ c ∈ Lib.itoa n, 48 ≤ c.toNat ∧ c.toNat ≤ 57 := by
  rw [itoa_nn h]
  have := (dec_all (n.toNat + 1) n.toNat (by omega)).1
  intro c hc
  have := List.all_eq_true.1 this c hc
  simpa [isDig] using this
end Go.Age
end
