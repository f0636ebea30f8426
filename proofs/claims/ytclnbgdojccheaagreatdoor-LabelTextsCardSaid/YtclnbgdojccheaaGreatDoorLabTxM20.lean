/- Part of the proof of LabelTextsCardSaid/LabelBackCardSaid. -/
import Derived.Test.YtclnbgdojccheaaGreatDoorRows
import Derived.Test.YtclnbgdojccheaaGreatDoorCards
import Derived.Test.YtclnbgdojccheaaGreatDoorTie
import Derived.Test.YtclnbgdojccheaaGreatDoorLabTxM17
import Derived.Test.YtclnbgdojccheaaGreatDoorLabTxM19
import Derived.Stop.LaidErr
import Derived.ProofKit
import Derived.Carry
import Derived.Lay
import Derived.MakeChecks
import Derived.LaidLaws
import Derived.LaidSub
import Derived.Test.YtclnbgdojccheaaGreatDoorLabTxM18
section
set_option linter.all false
set_option linter.unusedVariables false
set_option linter.unusedSimpArgs false
set_option maxRecDepth 100000
namespace Go.Age
open Go.Den Go.Proofs Go.RowKit Go.ChangeShapes Go.WideShapes Go.ChangeAt Go.Proofs.YtclnbgdojccheaaGreatDoor
theorem ownT : ownKnob Tryz.prog.godebug = none := by kernel_rfl
theorem laidT : laidOutB Tryz.prog = true := by kernel_rfl
theorem namesOk : (Tryz.prog.funcs.toList.all fun fn => !(fn.name == "runtime.NumGoroutine")) = true := by decide +kernel
theorem envOk : EnvOk Tryz.prog E where
  ty := fun t i h => h
  code := fun f fn h => ⟨h, by
    have hm : fn ∈ Tryz.prog.funcs.toList := by
      have h : Tryz.prog.funcs[f]? = some fn := h
      rw [← Array.getElem?_toList] at h
      exact List.mem_of_getElem? h
    simpa using List.all_eq_true.1 namesOk fn hm⟩
  prim := fun f p h args H c H' hp => by
    have h : primT f = some p := h
    unfold primT at h
    split at h
    · rename_i hf
      subst hf
      cases h
      exact sortedOwed args H c H' hp
    split at h
    · rename_i hf
      subst hf
      cases h
      exact sortedBOwed args H c H' hp
    split at h
    · rename_i hf
      subst hf
      cases h
      exact itoaOwed args H c H' hp
    split at h
    · rename_i hf
      subst hf
      cases h
      exact atoiOwed args H c H' hp
    split at h
    · rename_i hf
      subst hf
      cases h
      exact indexOwed args H c H' hp
    · cases h
  primR := fun f p _ h => by cases h
  mixed := by kernel_rfl
theorem sim0 (w : World) : Sim w.heap.size (stW w) [] noMu w where
  hb := Nat.le_refl _
  stb := fun b h => h
  stl := fun b id r h _ _ _ hm => by cases hm
  row := fun id r h _ hm => by cases hm
  frz := fun id r h _ _ hm => by cases hm
  ne := fun id id' r r' h h' _ _ _ _ hm _ => by cases hm
theorem vrels_lits {μ : Mu} {st : Nat → Prop} {w : World} {k : IntKind} : ∀ zs : List Int, VRels μ st w (zs.map fun n => .v (.int k n)) (zs.map fun z => Value.int k z)
  | [] => VRels.nil
  | z :: zs => VRels.cons (by simp only [VRel]) (vrels_lits zs)
theorem gl_one {W : World} {n : String} {g : Nat} {v : Value} (hn : Tryz.prog.globalNamed n = some g) (hv : W.var? Tryz.prog n = some #[v]) : stW W g ∧ (∃ arr e x, W.heap[g]? = some (.cells arr e x) ∧ arr.size = 1) ∧ W.cell? ⟨g, 0, none⟩ = some v := by
  have hc := World.var?_cell hn hv 0
  unfold World.var? at hv
  rw [hn] at hv
  simp only [Option.bind_some, Option.bind_eq_bind] at hv
  split at hv
  · rename_i e
    cases hv
    exact ⟨(Array.getElem?_eq_some_iff.1 e).1, ⟨_, _, _, e, rfl⟩, by simpa using hc⟩
  · cases hv
theorem gl_of {W : World} (h : Lib.TabIs Tryz.prog W "internal/strconv.uint64pow10" .u64 Lib.pow10Tab) (x2 x3 : Value) (h2 : W.var? Tryz.prog "strconv.ErrSyntax" = some #[.iface 254 x2]) (h3 : W.var? Tryz.prog "strconv.ErrRange" = some #[.iface 254 x3]) : Gl E (stW W) W := fun g cs hg => by
  have hg : (if g = 1 then some tabC else if g = 2 ∨ g = 3 then some [.ifc 254 .junk] else none) = some cs := hg
  split at hg
  · rename_i e
    subst e
    cases hg
    have hcell := fun i hi => h.cell (show Tryz.prog.globalNamed "internal/strconv.uint64pow10" = some 1 by kernel_rfl) i hi
    have hv : W.var? Tryz.prog "internal/strconv.uint64pow10" = some (Lib.pow10Tab.map fun z => Value.int .u64 z).toArray := h
    have hb : ∃ arr e x, W.heap[1]? = some (.cells arr e x) ∧ arr = (Lib.pow10Tab.map fun z => Value.int .u64 z).toArray := by
      unfold World.var? at hv
      rw [show Tryz.prog.globalNamed "internal/strconv.uint64pow10" = some 1 by kernel_rfl] at hv
      simp only [Option.bind_some, Option.bind_eq_bind] at hv
      split at hv
      · rename_i e
        cases hv
        exact ⟨_, _, _, e, rfl⟩
      · cases hv
    obtain ⟨arr, e, x, hb1, hb2⟩ := hb
    have hs : stW W 1 := by
      have := (Array.getElem?_eq_some_iff.1 hb1).1
      exact this
    refine ⟨?_, hs, arr, e, x, hb1, by rw [hb2]; simp [tabC]⟩
    simp only [VRel]
    refine ⟨_, _, rfl, vrels_lits Lib.pow10Tab, fun j x hj => ⟨hs, ?_⟩⟩
    have hj' : j < Lib.pow10Tab.length := by
      have := (List.getElem?_eq_some_iff.1 hj).1
      simpa using this
    have := hcell j hj'
    rw [show (Addr.mk 1 0 none).add j = ⟨1, j, none⟩ by unfold Addr.add; split <;> simp_all, this]
    simp [List.getElem?_map, hj'] at hj
    simp [← hj, List.getD, hj']
  have key : ∀ (n : String) (x : Value), Tryz.prog.globalNamed n = some g → W.var? Tryz.prog n = some #[.iface 254 x] → VRel (fun _ => none) (stW W) W (.rp [.ifc 254 .junk]) (.pointer (some ⟨g, 0, none⟩)) ∧ stW W g ∧ ∃ arr e x, W.heap[g]? = some (.cells arr e x) ∧ arr.size = 1 := fun n x hn hv => by
    obtain ⟨hs, hh, hc⟩ := gl_one hn hv
    refine ⟨?_, hs, hh⟩
    simp only [VRel]
    refine ⟨_, [.iface 254 x], rfl, VRels.cons (by simp only [VRel]; exact ⟨x, rfl, trivial⟩) VRels.nil, fun j y hj => ⟨hs, ?_⟩⟩
    match j, hj with
    | 0, hj =>
      cases hj
      simpa [Addr.add] using hc
  split at hg
  · rename_i e
    cases hg
    rcases e with e | e
    · subst e
      exact key _ x2 (by kernel_rfl) h2
    · subst e
      exact key _ x3 (by kernel_rfl) h3
  · cases hg
abbrev laid5 : List (String × DataW Unit) := [("math/bits.deBruijn32tab", Rows.laid_math_bits_deBruijn32tab), ("math/bits.deBruijn64tab", Rows.laid_math_bits_deBruijn64tab), ("internal/strconv.uint64pow10", Rows.laid_internal_strconv_uint64pow10), ("strconv.ErrRange", Rows.laid_strconv_ErrRange), ("strconv.ErrSyntax", Rows.laid_strconv_ErrSyntax)]
theorem star_es : ("*" ++ "errors.errorString" : String) = "*errors.errorString" := by decide
theorem row_es (u : TypeId) (h : Tryz.prog.typeName? 3 u = some "*errors.errorString") : u = 254 :=
  typeName_ptr_named (nm := "errors.errorString") (by rw [star_es]; kernel_rfl) (by kernel_rfl) (by decide) u (by rw [star_es]; exact h)
theorem gl_laid {W : World} (h : laidMetH Tryz.prog laid5 W) : Gl E (stW W) W := by
  have h1 := laidMetH.filter (fun x => x.1 == "internal/strconv.uint64pow10") h
  rw [MakeChecks.laidMetH_plain _ _ _ (by kernel_rfl)] at h1
  have h2 : laidMet Tryz.prog (("internal/strconv.uint64pow10", Lib.tabData .u64 Lib.pow10Tab) :: []) W := h1
  have s1 := laidMetH.filter (fun x => x.1 == "strconv.ErrSyntax") h
  rw [MakeChecks.laidMetH_plain _ _ _ (by kernel_rfl)] at s1
  have s2 : laidMet Tryz.prog (("strconv.ErrSyntax", Rows.laid_strconv_ErrSyntax) :: []) W := s1
  have r1 := laidMetH.filter (fun x => x.1 == "strconv.ErrRange") h
  rw [MakeChecks.laidMetH_plain _ _ _ (by kernel_rfl)] at r1
  have r2 : laidMet Tryz.prog (("strconv.ErrRange", Rows.laid_strconv_ErrRange) :: []) W := r1
  obtain ⟨a2, _, hv2, -, -, -⟩ := laid_sentinel (g := 2) (ti := 168) (tp := 254) (te := 256) (ts := 9) s2 (by kernel_rfl) (by kernel_rfl) Tryz.underlying168 row_es Tryz.underlying254 Tryz.underlying256 rfl rfl Tryz.underlying9 (by kernel_rfl) (by kernel_rfl)
  obtain ⟨a3, _, hv3, -, -, -⟩ := laid_sentinel (g := 3) (ti := 168) (tp := 254) (te := 256) (ts := 9) r2 (by kernel_rfl) (by kernel_rfl) Tryz.underlying168 row_es Tryz.underlying254 Tryz.underlying256 rfl rfl Tryz.underlying9 (by kernel_rfl) (by kernel_rfl)
  exact gl_of (Lib.tabIs_of_head (g := 1) (t := 212) (e := 184) (n := 20) (by kernel_rfl) (by kernel_rfl) (by kernel_rfl) (by kernel_rfl) (by kernel_rfl) (by kernel_rfl) h2) _ _ hv2 hv3
end Go.Age
end
section
set_option linter.all false
set_option linter.unusedVariables false
set_option linter.unusedSimpArgs false
set_option maxRecDepth 100000
set_option maxHeartbeats 8000000
attribute [local irreducible] Go.Den.W Go.Den.WL Go.Den.WX Go.Den.WQ Go.Den.QR Go.Den.WG Go.Den.WO Go.Den.WK Go.Den.grows Go.Den.stepOp Go.Den.callV Go.Den.den
namespace Go.Age
open Go.Den Go.Proofs
@[go_sem] theorem fold_ltF (a b : ByteArray) : Op.bytesLess a.toList b.toList = strLt a b := rfl
@[go_sem] theorem fold_eqF (a b : ByteArray) : (a.toList == b.toList) = strEq a b := rfl
structure LabD where
  y : Int
  org : ByteArray
  str : Int
  nilA : Bool
  al : List ByteArray
abbrev LabD.cells (x : LabD) : List CV := [i64 x.y, strC x.org, i64 x.str, sl x.nilA (x.al.map strC) x.al.length]
structure LabSm (x : LabD) : Prop where
  org : x.org.size ≤ 1000000
  len : x.al.length ≤ 100000
  al : ∀ i : Int, 0 ≤ i → i < x.al.length → (alAt x.al i).size ≤ 1000000
noncomputable def formS (x : LabD) : Bool := decide (0 ≤ x.y ∧ x.y ≤ 300) && (strEq x.org ⟨#[]⟩ || nameS x.org) && decide (0 ≤ x.str ∧ x.str ≤ 10000) && decide (x.al.length ≤ 1024) && alS x.al
theorem form_bad {x : LabD} (h : alS x.al = false) : CV.v (Value.bool false) = bl (formS x) := bl_congr (by simp only [formS, h, Bool.and_false])
theorem l108 (d : Nat) (b : ByteArray) (hb : b.size ≤ 1000000) : den E (d + 1) 108 [strC b] [] = some (bl (nameS b), []) := by
  refine den_eq Tryz.func108 rfl Tryz.ntmps108 (by simp) _ Tryz.results108 ?_
  repeat' (first | refine i_seq ?_ | refine k_seq ?_ | refine i_region ?_ | refine l_o ?_ | refine l_nil ?_ | (show RD _ _; refine e_do (by simp (disch := omega) only [go_sem, seval]; exact IsX.mk) ?_) | refine s_f ?_ | refine f_s ?_ | refine f_n ?_ | refine l_g rfl rfl ?_ | refine x2_o rfl ?_ | refine x2_n rfl ?_ | refine x2_u ?_ | refine i_cnd rfl ?_ | refine q2_true ?_ | refine q2_false ?_ | refine i_skip ?_ | refine i_label ?_ | refine i_exit ?_ | refine i_ret ?_ | refine k_seqr ?_ | refine k_seqe ?_ | refine i_block ?_ | refine k_blk ?_ | refine k_blkr ?_ | refine k_blke ?_ | refine k_blkn rfl ?_ | refine k_loope ?_ | refine k_loopr ?_ | refine s_t (by simp (disch := omega) only [go_sem, Nat.reduceLeDiff]) ?_ | refine i_draw (by decide +kernel) ?_ | refine r_rt ?_ | refine r_nm ?_ | refine k_d (by simp (disch := omega) only [go_sem, Nat.reduceLT, Nat.reduceEqDiff, ↓reduceIte, ne_eq, not_false_eq_true, Nat.reduceAdd, reduceCtorEq]) rfl ?_)
  refine i_loop (fun i => upd (upd (upd jk 6 (i64 i)) 5 (i64 b.size)) 0 (strC b)) (fun i : Int => [])
    (fun i => (b.size - i).toNat) (fun i => 0 ≤ i ∧ i ≤ b.size ∧ ∀ j : Int, 0 ≤ j → j < i → OkB b j) 0 (by simp only [rounds]; omega) (by simp (disch := omega) only [go_sem, seval]) rfl ⟨by omega, by omega, by omega⟩ ?_
  rintro i ⟨h1, h2, h3⟩
  by_cases hi : i < b.size
  · by_cases c1 : byteS b i < 32
    · repeat' (first | refine i_seq ?_ | refine k_seq ?_ | refine i_region ?_ | refine l_o ?_ | refine l_nil ?_ | (show RD _ _; refine e_do (by simp (disch := omega) only [go_sem, seval, wr64]; exact IsX.mk) ?_) | refine s_f ?_ | refine f_s ?_ | refine f_n ?_ | refine l_g rfl rfl ?_ | refine x2_o rfl ?_ | refine x2_n rfl ?_ | refine x2_u ?_ | refine i_cnd rfl ?_ | refine q2_true ?_ | refine q2_false ?_ | refine i_skip ?_ | refine i_label ?_ | refine i_exit ?_ | refine i_ret ?_ | refine k_seqr ?_ | refine k_seqe ?_ | refine i_block ?_ | refine k_blk ?_ | refine k_blkr ?_ | refine k_blke ?_ | refine k_blkn rfl ?_ | refine k_loope ?_ | refine k_loopr ?_ | refine s_t (by simp (disch := omega) only [go_sem, Nat.reduceLeDiff]) ?_ | refine i_draw (by decide +kernel) ?_ | refine r_rt ?_ | refine r_nm ?_ | refine k_d (by simp (disch := omega) only [go_sem, Nat.reduceLT, Nat.reduceEqDiff, ↓reduceIte, ne_eq, not_false_eq_true, Nat.reduceAdd, reduceCtorEq]) rfl ?_)
      exact ⟨(congrArg (fun x => CV.v (Value.bool x)) (name_f fun h => by have := h.ok i h1 hi; unfold OkB at this; omega)).symm, rfl⟩
    · by_cases c2 : 126 < byteS b i
      · repeat' (first | refine i_seq ?_ | refine k_seq ?_ | refine i_region ?_ | refine l_o ?_ | refine l_nil ?_ | (show RD _ _; refine e_do (by simp (disch := omega) only [go_sem, seval, wr64]; exact IsX.mk) ?_) | refine s_f ?_ | refine f_s ?_ | refine f_n ?_ | refine l_g rfl rfl ?_ | refine x2_o rfl ?_ | refine x2_n rfl ?_ | refine x2_u ?_ | refine i_cnd rfl ?_ | refine q2_true ?_ | refine q2_false ?_ | refine i_skip ?_ | refine i_label ?_ | refine i_exit ?_ | refine i_ret ?_ | refine k_seqr ?_ | refine k_seqe ?_ | refine i_block ?_ | refine k_blk ?_ | refine k_blkr ?_ | refine k_blke ?_ | refine k_blkn rfl ?_ | refine k_loope ?_ | refine k_loopr ?_ | refine s_t (by simp (disch := omega) only [go_sem, Nat.reduceLeDiff]) ?_ | refine i_draw (by decide +kernel) ?_ | refine r_rt ?_ | refine r_nm ?_ | refine k_d (by simp (disch := omega) only [go_sem, Nat.reduceLT, Nat.reduceEqDiff, ↓reduceIte, ne_eq, not_false_eq_true, Nat.reduceAdd, reduceCtorEq]) rfl ?_)
        exact ⟨(congrArg (fun x => CV.v (Value.bool x)) (name_f fun h => by have := h.ok i h1 hi; unfold OkB at this; omega)).symm, rfl⟩
      · repeat' (first | refine i_seq ?_ | refine k_seq ?_ | refine i_region ?_ | refine l_o ?_ | refine l_nil ?_ | (show RD _ _; refine e_do (by simp (disch := omega) only [go_sem, seval, wr64]; exact IsX.mk) ?_) | refine s_f ?_ | refine f_s ?_ | refine f_n ?_ | refine l_g rfl rfl ?_ | refine x2_o rfl ?_ | refine x2_n rfl ?_ | refine x2_u ?_ | refine i_cnd rfl ?_ | refine q2_true ?_ | refine q2_false ?_ | refine i_skip ?_ | refine i_label ?_ | refine i_exit ?_ | refine i_ret ?_ | refine k_seqr ?_ | refine k_seqe ?_ | refine i_block ?_ | refine k_blk ?_ | refine k_blkr ?_ | refine k_blke ?_ | refine k_blkn rfl ?_ | refine k_loope ?_ | refine k_loopr ?_ | refine s_t (by simp (disch := omega) only [go_sem, Nat.reduceLeDiff]) ?_ | refine i_draw (by decide +kernel) ?_ | refine r_rt ?_ | refine r_nm ?_ | refine k_d (by simp (disch := omega) only [go_sem, Nat.reduceLT, Nat.reduceEqDiff, ↓reduceIte, ne_eq, not_false_eq_true, Nat.reduceAdd, reduceCtorEq]) rfl ?_)
        refine k_loop (i + 1) (by omega) (by simp (disch := omega) only [go_sem, seval, wr64]; try rfl) rfl ⟨by omega, by omega, fun j j1 j2 => ?_⟩
        by_cases e : j = i
        · subst e; exact ⟨by omega, by omega⟩
        · exact h3 j j1 (by omega)
  · have : i = b.size := by omega
    subst this
    by_cases l1 : 1 ≤ b.size
    · by_cases l2 : b.size ≤ 64
      · by_cases l3 : byteS b 0 = 32
        · repeat' (first | refine i_seq ?_ | refine k_seq ?_ | refine i_region ?_ | refine l_o ?_ | refine l_nil ?_ | (show RD _ _; refine e_do (by simp (disch := omega) only [go_sem, seval, wr64]; exact IsX.mk) ?_) | refine s_f ?_ | refine f_s ?_ | refine f_n ?_ | refine l_g rfl rfl ?_ | refine x2_o rfl ?_ | refine x2_n rfl ?_ | refine x2_u ?_ | refine i_cnd rfl ?_ | refine q2_true ?_ | refine q2_false ?_ | refine i_skip ?_ | refine i_label ?_ | refine i_exit ?_ | refine i_ret ?_ | refine k_seqr ?_ | refine k_seqe ?_ | refine i_block ?_ | refine k_blk ?_ | refine k_blkr ?_ | refine k_blke ?_ | refine k_blkn rfl ?_ | refine k_loope ?_ | refine k_loopr ?_ | refine s_t (by simp (disch := omega) only [go_sem, Nat.reduceLeDiff]) ?_ | refine i_draw (by decide +kernel) ?_ | refine r_rt ?_ | refine r_nm ?_ | refine k_d (by simp (disch := omega) only [go_sem, Nat.reduceLT, Nat.reduceEqDiff, ↓reduceIte, ne_eq, not_false_eq_true, Nat.reduceAdd, reduceCtorEq]) rfl ?_)
          exact ⟨(congrArg (fun x => CV.v (Value.bool x)) (name_f fun h => h.f l3)).symm, rfl⟩
        · by_cases l4 : byteS b (b.size - 1) = 32
          · repeat' (first | refine i_seq ?_ | refine k_seq ?_ | refine i_region ?_ | refine l_o ?_ | refine l_nil ?_ | (show RD _ _; refine e_do (by simp (disch := omega) only [go_sem, seval, wr64]; exact IsX.mk) ?_) | refine s_f ?_ | refine f_s ?_ | refine f_n ?_ | refine l_g rfl rfl ?_ | refine x2_o rfl ?_ | refine x2_n rfl ?_ | refine x2_u ?_ | refine i_cnd rfl ?_ | refine q2_true ?_ | refine q2_false ?_ | refine i_skip ?_ | refine i_label ?_ | refine i_exit ?_ | refine i_ret ?_ | refine k_seqr ?_ | refine k_seqe ?_ | refine i_block ?_ | refine k_blk ?_ | refine k_blkr ?_ | refine k_blke ?_ | refine k_blkn rfl ?_ | refine k_loope ?_ | refine k_loopr ?_ | refine s_t (by simp (disch := omega) only [go_sem, Nat.reduceLeDiff]) ?_ | refine i_draw (by decide +kernel) ?_ | refine r_rt ?_ | refine r_nm ?_ | refine k_d (by simp (disch := omega) only [go_sem, Nat.reduceLT, Nat.reduceEqDiff, ↓reduceIte, ne_eq, not_false_eq_true, Nat.reduceAdd, reduceCtorEq]) rfl ?_)
            exact ⟨(congrArg (fun x => CV.v (Value.bool x)) (name_f fun h => h.l l4)).symm, rfl⟩
          · repeat' (first | refine i_seq ?_ | refine k_seq ?_ | refine i_region ?_ | refine l_o ?_ | refine l_nil ?_ | (show RD _ _; refine e_do (by simp (disch := omega) only [go_sem, seval, wr64]; exact IsX.mk) ?_) | refine s_f ?_ | refine f_s ?_ | refine f_n ?_ | refine l_g rfl rfl ?_ | refine x2_o rfl ?_ | refine x2_n rfl ?_ | refine x2_u ?_ | refine i_cnd rfl ?_ | refine q2_true ?_ | refine q2_false ?_ | refine i_skip ?_ | refine i_label ?_ | refine i_exit ?_ | refine i_ret ?_ | refine k_seqr ?_ | refine k_seqe ?_ | refine i_block ?_ | refine k_blk ?_ | refine k_blkr ?_ | refine k_blke ?_ | refine k_blkn rfl ?_ | refine k_loope ?_ | refine k_loopr ?_ | refine s_t (by simp (disch := omega) only [go_sem, Nat.reduceLeDiff]) ?_ | refine i_draw (by decide +kernel) ?_ | refine r_rt ?_ | refine r_nm ?_ | refine k_d (by simp (disch := omega) only [go_sem, Nat.reduceLT, Nat.reduceEqDiff, ↓reduceIte, ne_eq, not_false_eq_true, Nat.reduceAdd, reduceCtorEq]) rfl ?_)
            exact ⟨(congrArg (fun x => CV.v (Value.bool x)) (name_t ⟨l1, l2, h3, l3, l4⟩)).symm, rfl⟩
      · repeat' (first | refine i_seq ?_ | refine k_seq ?_ | refine i_region ?_ | refine l_o ?_ | refine l_nil ?_ | (show RD _ _; refine e_do (by simp (disch := omega) only [go_sem, seval, wr64]; exact IsX.mk) ?_) | refine s_f ?_ | refine f_s ?_ | refine f_n ?_ | refine l_g rfl rfl ?_ | refine x2_o rfl ?_ | refine x2_n rfl ?_ | refine x2_u ?_ | refine i_cnd rfl ?_ | refine q2_true ?_ | refine q2_false ?_ | refine i_skip ?_ | refine i_label ?_ | refine i_exit ?_ | refine i_ret ?_ | refine k_seqr ?_ | refine k_seqe ?_ | refine i_block ?_ | refine k_blk ?_ | refine k_blkr ?_ | refine k_blke ?_ | refine k_blkn rfl ?_ | refine k_loope ?_ | refine k_loopr ?_ | refine s_t (by simp (disch := omega) only [go_sem, Nat.reduceLeDiff]) ?_ | refine i_draw (by decide +kernel) ?_ | refine r_rt ?_ | refine r_nm ?_ | refine k_d (by simp (disch := omega) only [go_sem, Nat.reduceLT, Nat.reduceEqDiff, ↓reduceIte, ne_eq, not_false_eq_true, Nat.reduceAdd, reduceCtorEq]) rfl ?_)
        exact ⟨(congrArg (fun x => CV.v (Value.bool x)) (name_f fun h => l2 h.l2)).symm, rfl⟩
    · repeat' (first | refine i_seq ?_ | refine k_seq ?_ | refine i_region ?_ | refine l_o ?_ | refine l_nil ?_ | (show RD _ _; refine e_do (by simp (disch := omega) only [go_sem, seval, wr64]; exact IsX.mk) ?_) | refine s_f ?_ | refine f_s ?_ | refine f_n ?_ | refine l_g rfl rfl ?_ | refine x2_o rfl ?_ | refine x2_n rfl ?_ | refine x2_u ?_ | refine i_cnd rfl ?_ | refine q2_true ?_ | refine q2_false ?_ | refine i_skip ?_ | refine i_label ?_ | refine i_exit ?_ | refine i_ret ?_ | refine k_seqr ?_ | refine k_seqe ?_ | refine i_block ?_ | refine k_blk ?_ | refine k_blkr ?_ | refine k_blke ?_ | refine k_blkn rfl ?_ | refine k_loope ?_ | refine k_loopr ?_ | refine s_t (by simp (disch := omega) only [go_sem, Nat.reduceLeDiff]) ?_ | refine i_draw (by decide +kernel) ?_ | refine r_rt ?_ | refine r_nm ?_ | refine k_d (by simp (disch := omega) only [go_sem, Nat.reduceLT, Nat.reduceEqDiff, ↓reduceIte, ne_eq, not_false_eq_true, Nat.reduceAdd, reduceCtorEq]) rfl ?_)
      exact ⟨(congrArg (fun x => CV.v (Value.bool x)) (name_f fun h => l1 h.l1)).symm, rfl⟩
@[go_sem] theorem cl108 (d : Nat) (b : ByteArray) (H : Hp) (hb : b.size ≤ 1000000) : callV E (den E (d + 1)) 108 [strC b] H = some (bl (nameS b), H) := callV_plain rfl rfl rfl rfl ⟨_, l108 d b hb⟩ rfl
theorem l66 (d : Nat) (x : LabD) (hs : LabSm x) : ∃ H0, den E (d + 2) 66 [.agg x.cells] [] = some (bl (formS x), H0) := by
  refine den_ex Tryz.func66 rfl Tryz.ntmps66 (by simp) _ Tryz.results66 ?_
  have s1 := hs.org
  have s2 := hs.len
  repeat' (first | refine i_seq ?_ | refine k_seq ?_ | refine i_region ?_ | refine l_o ?_ | refine l_nil ?_ | (show RD _ _; refine e_do (by simp (disch := omega) only [go_sem, seval]; exact IsX.mk) ?_) | refine s_f ?_ | refine f_s ?_ | refine f_n ?_ | refine l_g rfl rfl ?_ | refine x2_o rfl ?_ | refine x2_n rfl ?_ | refine x2_u ?_ | refine i_cnd rfl ?_ | refine q2_true ?_ | refine q2_false ?_ | refine i_skip ?_ | refine i_label ?_ | refine i_exit ?_ | refine i_ret ?_ | refine k_seqr ?_ | refine k_seqe ?_ | refine i_block ?_ | refine k_blk ?_ | refine k_blkr ?_ | refine k_blke ?_ | refine k_blkn rfl ?_ | refine k_loope ?_ | refine k_loopr ?_ | refine s_t (by simp (disch := omega) only [go_sem, Nat.reduceLeDiff]) ?_ | refine i_draw (by decide +kernel) ?_ | refine r_rt ?_ | refine r_nm ?_ | refine k_d (by simp (disch := omega) only [go_sem, Nat.reduceLT, Nat.reduceEqDiff, ↓reduceIte, ne_eq, not_false_eq_true, Nat.reduceAdd, reduceCtorEq]) rfl ?_)
  refine i_loop (fun i => upd (upd (upd (upd jk 8 (i64 i)) 7 (i64 x.al.length)) 6 (sl x.nilA (x.al.map strC) x.al.length)) 1 (.op 0 0)) (fun i : Int => [.row ⟨x.cells, 40, 4, true⟩])
    (fun i => (x.al.length - i).toNat) (AlTo x.al) 0 (by simp only [rounds]; omega) (by simp (disch := omega) only [go_sem, seval]) (by simp (disch := omega) only [go_sem, seval]) (AlTo.zero _) ?_
  intro i hto
  have h1 := hto.1
  have h2 := hto.2.1
  by_cases hi : i < x.al.length
  · have s3 := hs.al i h1 hi
    by_cases c1 : nameS (alAt x.al i) = true
    · repeat' (first | (first | refine i_seq ?_ | refine k_seq ?_ | refine i_region ?_ | refine l_o ?_ | refine l_nil ?_ | (show RD _ _; refine e_do (by simp (disch := omega) only [go_sem, seval, wr64, c1]; exact IsX.mk) ?_) | refine s_f ?_ | refine f_s ?_ | refine f_n ?_ | refine l_g rfl rfl ?_ | refine x2_o rfl ?_ | refine x2_n rfl ?_ | refine x2_u ?_ | refine i_cnd rfl ?_ | refine q2_true ?_ | refine q2_false ?_ | refine i_skip ?_ | refine i_label ?_ | refine i_exit ?_ | refine i_ret ?_ | refine k_seqr ?_ | refine k_seqe ?_ | refine i_block ?_ | refine k_blk ?_ | refine k_blkr ?_ | refine k_blke ?_ | refine k_blkn rfl ?_ | refine k_loope ?_ | refine k_loopr ?_ | refine s_t (by simp (disch := omega) only [go_sem, Nat.reduceLeDiff]) ?_ | refine i_draw (by decide +kernel) ?_ | refine r_rt ?_ | refine r_nm ?_ | refine k_d (by simp (disch := omega) only [go_sem, Nat.reduceLT, Nat.reduceEqDiff, ↓reduceIte, ne_eq, not_false_eq_true, Nat.reduceAdd, reduceCtorEq]) rfl ?_) | (first | refine x2_split (fun h => ?_) (fun h => ?_) | refine q2_split (fun h => ?_) (fun h => ?_)) <;> (try simp only [beq_iff_eq, bne_iff_ne, beq_eq_false_iff_ne, bne_eq_false_iff_eq, ne_eq, decide_eq_true_eq, decide_eq_false_iff_not, gt_iff_lt, ge_iff_le, Bool.not_eq_true', Bool.not_eq_false'] at h))
      · exact form_bad (al_bad2 (by assumption) hi (by assumption))
      · exact k_loop (i + 1) (by omega) (by simp (disch := omega) only [go_sem, seval, wr64]) rfl (hto.next hi (name_iff.1 c1) fun _ => by assumption)
      · exact k_loop (i + 1) (by omega) (by simp (disch := omega) only [go_sem, seval, wr64]) rfl (hto.next hi (name_iff.1 c1) fun _ => by omega)
    · have c1' := Bool.eq_false_iff.2 c1
      repeat' (first | refine i_seq ?_ | refine k_seq ?_ | refine i_region ?_ | refine l_o ?_ | refine l_nil ?_ | (show RD _ _; refine e_do (by simp (disch := omega) only [go_sem, seval, wr64, c1']; exact IsX.mk) ?_) | refine s_f ?_ | refine f_s ?_ | refine f_n ?_ | refine l_g rfl rfl ?_ | refine x2_o rfl ?_ | refine x2_n rfl ?_ | refine x2_u ?_ | refine i_cnd rfl ?_ | refine q2_true ?_ | refine q2_false ?_ | refine i_skip ?_ | refine i_label ?_ | refine i_exit ?_ | refine i_ret ?_ | refine k_seqr ?_ | refine k_seqe ?_ | refine i_block ?_ | refine k_blk ?_ | refine k_blkr ?_ | refine k_blke ?_ | refine k_blkn rfl ?_ | refine k_loope ?_ | refine k_loopr ?_ | refine s_t (by simp (disch := omega) only [go_sem, Nat.reduceLeDiff]) ?_ | refine i_draw (by decide +kernel) ?_ | refine r_rt ?_ | refine r_nm ?_ | refine k_d (by simp (disch := omega) only [go_sem, Nat.reduceLT, Nat.reduceEqDiff, ↓reduceIte, ne_eq, not_false_eq_true, Nat.reduceAdd, reduceCtorEq]) rfl ?_)
      exact form_bad (al_bad1 h1 hi c1')
  · have : i = x.al.length := by omega
    subst this
    have ha := hto.last
    repeat' (first | (first | refine i_seq ?_ | refine k_seq ?_ | refine i_region ?_ | refine l_o ?_ | refine l_nil ?_ | (show RD _ _; refine e_do (by simp (disch := omega) only [go_sem, seval, wr64]; exact IsX.mk) ?_) | refine s_f ?_ | refine f_s ?_ | refine f_n ?_ | refine l_g rfl rfl ?_ | refine x2_o rfl ?_ | refine x2_n rfl ?_ | refine x2_u ?_ | refine i_cnd rfl ?_ | refine q2_true ?_ | refine q2_false ?_ | refine i_skip ?_ | refine i_label ?_ | refine i_exit ?_ | refine i_ret ?_ | refine k_seqr ?_ | refine k_seqe ?_ | refine i_block ?_ | refine k_blk ?_ | refine k_blkr ?_ | refine k_blke ?_ | refine k_blkn rfl ?_ | refine k_loope ?_ | refine k_loopr ?_ | refine s_t (by simp (disch := omega) only [go_sem, Nat.reduceLeDiff]) ?_ | refine i_draw (by decide +kernel) ?_ | refine r_rt ?_ | refine r_nm ?_ | refine k_d (by simp (disch := omega) only [go_sem, Nat.reduceLT, Nat.reduceEqDiff, ↓reduceIte, ne_eq, not_false_eq_true, Nat.reduceAdd, reduceCtorEq]) rfl ?_) | (first | refine x2_split (fun h => ?_) (fun h => ?_) | refine q2_split (fun h => ?_) (fun h => ?_)) <;> (try simp only [beq_iff_eq, bne_iff_ne, beq_eq_false_iff_ne, bne_eq_false_iff_eq, ne_eq, decide_eq_true_eq, decide_eq_false_iff_not, gt_iff_lt, ge_iff_le, Bool.not_eq_true', Bool.not_eq_false'] at h))
    all_goals refine bl_congr ?_
    all_goals simp_all [formS]
    all_goals omega
@[go_sem] theorem cl66 (d : Nat) (x : LabD) (H : Hp) (hs : LabSm x) : callV E (den E (d + 2)) 66 [.agg x.cells] H = some (bl (formS x), H) := callV_plain rfl rfl rfl (by simp (disch := omega) only [go_sem, seval]) (l66 d x hs) rfl
theorem l68 (d : Nat) (x : LabD) (hs : LabSm x) : ∃ H0, den E (d + 2) 68 [.agg x.cells] [] = some (bl (formS x), H0) := by
  refine den_ex Tryz.func68 rfl Tryz.ntmps68 (by simp) _ Tryz.results68 ?_
  have s1 := hs.org
  have s2 := hs.len
  repeat' (first | (first | refine i_seq ?_ | refine k_seq ?_ | refine i_region ?_ | refine l_o ?_ | refine l_nil ?_ | (show RD _ _; refine e_do (by simp (disch := omega) only [go_sem, seval]; exact IsX.mk) ?_) | refine s_f ?_ | refine f_s ?_ | refine f_n ?_ | refine l_g rfl rfl ?_ | refine x2_o rfl ?_ | refine x2_n rfl ?_ | refine x2_u ?_ | refine i_cnd rfl ?_ | refine q2_true ?_ | refine q2_false ?_ | refine i_skip ?_ | refine i_label ?_ | refine i_exit ?_ | refine i_ret ?_ | refine k_seqr ?_ | refine k_seqe ?_ | refine i_block ?_ | refine k_blk ?_ | refine k_blkr ?_ | refine k_blke ?_ | refine k_blkn rfl ?_ | refine k_loope ?_ | refine k_loopr ?_ | refine s_t (by simp (disch := omega) only [go_sem, Nat.reduceLeDiff]) ?_ | refine i_draw (by decide +kernel) ?_ | refine r_rt ?_ | refine r_nm ?_ | refine k_d (by simp (disch := omega) only [go_sem, Nat.reduceLT, Nat.reduceEqDiff, ↓reduceIte, ne_eq, not_false_eq_true, Nat.reduceAdd, reduceCtorEq]) rfl ?_) | (first | refine x2_split (fun h => ?_) (fun h => ?_) | refine q2_split (fun h => ?_) (fun h => ?_)) <;> (try simp only [beq_iff_eq, bne_iff_ne, beq_eq_false_iff_ne, bne_eq_false_iff_eq, ne_eq, decide_eq_true_eq, decide_eq_false_iff_not, gt_iff_lt, ge_iff_le, Bool.not_eq_true', Bool.not_eq_false'] at h))
  all_goals try (refine bl_congr ?_; simp_all [formS]; done)
  all_goals try (refine bl_congr ?_; simp_all [formS]; omega)
  all_goals
    refine i_loop (fun i => upd (upd jk 3 (i64 i)) 1 (.op 0 0)) (fun i : Int => [.row ⟨x.cells, 40, 4, true⟩])
      (fun i => (x.al.length - i).toNat) (AlTo x.al) 0 (by simp only [rounds]; omega) (by simp (disch := omega) only [go_sem, seval]) (by simp (disch := omega) only [go_sem, seval]) (AlTo.zero _) ?_
    intro i hto
    have h1 := hto.1
    have h2 := hto.2.1
    by_cases hi : i < x.al.length
    · have s3 := hs.al i h1 hi
      by_cases c1 : nameS (alAt x.al i) = true
      · repeat' (first | (first | refine i_seq ?_ | refine k_seq ?_ | refine i_region ?_ | refine l_o ?_ | refine l_nil ?_ | (show RD _ _; refine e_do (by simp (disch := omega) only [go_sem, seval, wr64, c1, str_le]; exact IsX.mk) ?_) | refine s_f ?_ | refine f_s ?_ | refine f_n ?_ | refine l_g rfl rfl ?_ | refine x2_o rfl ?_ | refine x2_n rfl ?_ | refine x2_u ?_ | refine i_cnd rfl ?_ | refine q2_true ?_ | refine q2_false ?_ | refine i_skip ?_ | refine i_label ?_ | refine i_exit ?_ | refine i_ret ?_ | refine k_seqr ?_ | refine k_seqe ?_ | refine i_block ?_ | refine k_blk ?_ | refine k_blkr ?_ | refine k_blke ?_ | refine k_blkn rfl ?_ | refine k_loope ?_ | refine k_loopr ?_ | refine s_t (by simp (disch := omega) only [go_sem, Nat.reduceLeDiff]) ?_ | refine i_draw (by decide +kernel) ?_ | refine r_rt ?_ | refine r_nm ?_ | refine k_d (by simp (disch := omega) only [go_sem, Nat.reduceLT, Nat.reduceEqDiff, ↓reduceIte, ne_eq, not_false_eq_true, Nat.reduceAdd, reduceCtorEq]) rfl ?_) | (first | refine x2_split (fun h => ?_) (fun h => ?_) | refine q2_split (fun h => ?_) (fun h => ?_)) <;> (try simp only [beq_iff_eq, bne_iff_ne, beq_eq_false_iff_ne, bne_eq_false_iff_eq, ne_eq, decide_eq_true_eq, decide_eq_false_iff_not, gt_iff_lt, ge_iff_le, Bool.not_eq_true', Bool.not_eq_false'] at h))
        · exact form_bad (al_bad2 (by assumption) hi (by assumption))
        · exact k_loop (i + 1) (by omega) (by simp (disch := omega) only [go_sem, seval, wr64]) rfl (hto.next hi (name_iff.1 c1) fun _ => by assumption)
        · exact k_loop (i + 1) (by omega) (by simp (disch := omega) only [go_sem, seval, wr64]) rfl (hto.next hi (name_iff.1 c1) fun _ => by omega)
      · have c1' := Bool.eq_false_iff.2 c1
        repeat' (first | refine i_seq ?_ | refine k_seq ?_ | refine i_region ?_ | refine l_o ?_ | refine l_nil ?_ | (show RD _ _; refine e_do (by simp (disch := omega) only [go_sem, seval, wr64, c1']; exact IsX.mk) ?_) | refine s_f ?_ | refine f_s ?_ | refine f_n ?_ | refine l_g rfl rfl ?_ | refine x2_o rfl ?_ | refine x2_n rfl ?_ | refine x2_u ?_ | refine i_cnd rfl ?_ | refine q2_true ?_ | refine q2_false ?_ | refine i_skip ?_ | refine i_label ?_ | refine i_exit ?_ | refine i_ret ?_ | refine k_seqr ?_ | refine k_seqe ?_ | refine i_block ?_ | refine k_blk ?_ | refine k_blkr ?_ | refine k_blke ?_ | refine k_blkn rfl ?_ | refine k_loope ?_ | refine k_loopr ?_ | refine s_t (by simp (disch := omega) only [go_sem, Nat.reduceLeDiff]) ?_ | refine i_draw (by decide +kernel) ?_ | refine r_rt ?_ | refine r_nm ?_ | refine k_d (by simp (disch := omega) only [go_sem, Nat.reduceLT, Nat.reduceEqDiff, ↓reduceIte, ne_eq, not_false_eq_true, Nat.reduceAdd, reduceCtorEq]) rfl ?_)
        exact form_bad (al_bad1 h1 hi c1')
    · have : i = x.al.length := by omega
      subst this
      have ha := hto.last
      repeat' (first | refine i_seq ?_ | refine k_seq ?_ | refine i_region ?_ | refine l_o ?_ | refine l_nil ?_ | (show RD _ _; refine e_do (by simp (disch := omega) only [go_sem, seval, wr64]; exact IsX.mk) ?_) | refine s_f ?_ | refine f_s ?_ | refine f_n ?_ | refine l_g rfl rfl ?_ | refine x2_o rfl ?_ | refine x2_n rfl ?_ | refine x2_u ?_ | refine i_cnd rfl ?_ | refine q2_true ?_ | refine q2_false ?_ | refine i_skip ?_ | refine i_label ?_ | refine i_exit ?_ | refine i_ret ?_ | refine k_seqr ?_ | refine k_seqe ?_ | refine i_block ?_ | refine k_blk ?_ | refine k_blkr ?_ | refine k_blke ?_ | refine k_blkn rfl ?_ | refine k_loope ?_ | refine k_loopr ?_ | refine s_t (by simp (disch := omega) only [go_sem, Nat.reduceLeDiff]) ?_ | refine i_draw (by decide +kernel) ?_ | refine r_rt ?_ | refine r_nm ?_ | refine k_d (by simp (disch := omega) only [go_sem, Nat.reduceLT, Nat.reduceEqDiff, ↓reduceIte, ne_eq, not_false_eq_true, Nat.reduceAdd, reduceCtorEq]) rfl ?_)
      refine bl_congr ?_
      simp_all [formS]
      try omega
theorem cl68 (d : Nat) (x : LabD) (H : Hp) (hs : LabSm x) : callV E (den E (d + 2)) 68 [.agg x.cells] H = some (bl (formS x), H) := callV_plain rfl rfl rfl (by simp (disch := omega) only [go_sem, seval]) (l68 d x hs) rfl
end Go.Age
end
