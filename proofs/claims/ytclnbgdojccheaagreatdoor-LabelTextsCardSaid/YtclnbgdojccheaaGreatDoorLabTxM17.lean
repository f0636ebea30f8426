/- Part of the proof of LabelTextsCardSaid/LabelBackCardSaid. -/
import Derived.Test.YtclnbgdojccheaaGreatDoorLabTxM16
import Derived.Test.YtclnbgdojccheaaGreatDoorLabTxM15
import Derived.Test.YtclnbgdojccheaaGreatDoorProg
import Derived.ProofKit
section
set_option linter.all false
set_option linter.unusedVariables false
set_option linter.unusedSimpArgs false
set_option maxRecDepth 100000
set_option maxHeartbeats 4000000
attribute [local irreducible] Go.Den.W Go.Den.WL Go.Den.WX Go.Den.WQ Go.Den.QR Go.Den.WG Go.Den.WO Go.Den.WK Go.Den.grows Go.Den.stepOp Go.Den.callV Go.Den.den
namespace Go.Age
open Go.Den Go.Proofs
structure FillD where
  id : Int
  cls : Int
  day : Int
  org : ByteArray
  nilA : Bool
  al : List ByteArray
abbrev FillD.cells (f : FillD) : List CV := [i64 f.id, i64 f.cls, i64 f.day, strC f.org, sl f.nilA (f.al.map strC) f.al.length]
instance : Inhabited FillD := ⟨⟨0, 0, 0, ⟨#[]⟩, true, []⟩⟩
def alAt (l : List ByteArray) (i : Int) : ByteArray := l.getD i.toNat ⟨#[]⟩
theorem drop_at {α : Type} (g : α → List CV) (k : Nat) (hk : ∀ a, (g a).length = k) (d : α) (l : List α) : ∀ (n : Nat), n < l.length → List.drop (n * k) (l.flatMap g) = g (l.getD n d) ++ List.drop ((n + 1) * k) (l.flatMap g) := by
  induction l with
  | nil => intro n h; simp at h
  | cons a l ih =>
    intro n h
    cases n with
    | zero => simp [hk a]
    | succ n =>
      simp only [List.flatMap_cons, List.getD_cons_succ]
      have h1 : ∀ m : Nat, List.drop ((m + 1) * k) (g a ++ l.flatMap g) = List.drop (m * k) (l.flatMap g) := by
        intro m
        rw [List.drop_append, List.drop_eq_nil_of_le (by rw [hk a]; exact Nat.le_mul_of_pos_left k (by omega)), hk a, Nat.add_mul, Nat.one_mul, Nat.add_sub_cancel, List.nil_append]
      rw [h1, h1]
      exact ih n (by simpa using h)
theorem flat_len {α : Type} (g : α → List CV) (k : Nat) (hk : ∀ a, (g a).length = k) (l : List α) : (l.flatMap g).length = k * l.length := by
  induction l with
  | nil => simp
  | cons a l ih => simp [hk a, ih, Nat.mul_add]; omega
theorem map_flat (l : List ByteArray) : l.map strC = l.flatMap fun s => [strC s] := by
  induction l with
  | nil => rfl
  | cons a l ih => simp [ih]
@[go_sem] theorem drop_al (l : List ByteArray) (i : Int) (h : 0 ≤ i ∧ i < l.length) : List.drop (i.toNat * 1) (l.map strC) = strC (alAt l i) :: List.drop ((i.toNat + 1) * 1) (l.map strC) := by
  rw [map_flat]
  exact drop_at _ 1 (fun _ => rfl) _ l i.toNat (by omega)
@[go_sem] theorem len_al (l : List ByteArray) : (l.map strC).length = l.length := by simp

structure AlP (l : List ByteArray) : Prop where
  n : ∀ i : Int, 0 ≤ i → i < l.length → NameP (alAt l i)
  o : ∀ i : Int, 1 ≤ i → i < l.length → strLt (alAt l (i - 1)) (alAt l i) = true
open Classical in
noncomputable def alS (l : List ByteArray) : Bool := decide (AlP l)
theorem al_t {l} (h : AlP l) : alS l = true := by simp only [alS, h, decide_true]
theorem al_f {l} (h : ¬ AlP l) : alS l = false := by simp only [alS, h, decide_false]
noncomputable def fillS (f : FillD) : Bool := idS f.id && decide (1 ≤ f.cls ∧ f.cls ≤ 8) && decide (0 ≤ f.day ∧ f.day ≤ 100000) && nameS f.org && decide (f.al.length ≤ 16) && alS f.al
theorem name_iff {b} : nameS b = true ↔ NameP b := by simp [nameS]
theorem bl_congr {a b : Bool} (h : a = b) : CV.v (Value.bool a) = bl b := by rw [h]
structure FillSm (f : FillD) : Prop where
  org : f.org.size ≤ 1000
  len : f.al.length ≤ 1000
  al : ∀ i : Int, 0 ≤ i → i < f.al.length → (alAt f.al i).size ≤ 1000
theorem al_bad1 {l : List ByteArray} {i : Int} (h0 : 0 ≤ i) (h1 : i < l.length) (h : nameS (alAt l i) = false) : alS l = false := al_f fun e => by rw [name_t (e.n i h0 h1)] at h; cases h
theorem al_bad2 {l : List ByteArray} {i : Int} (h0 : 0 < i) (h1 : i < l.length) (h : strLt (alAt l (i - 1)) (alAt l i) = false) : alS l = false := al_f fun e => by rw [e.o i (by omega) h1] at h; cases h
theorem fill_bad {f : FillD} (h : alS f.al = false) : CV.v (Value.bool false) = bl (fillS f) := bl_congr (by simp only [fillS, h, Bool.and_false])
def AlTo (l : List ByteArray) (i : Int) : Prop := 0 ≤ i ∧ i ≤ l.length ∧ (∀ j : Int, 0 ≤ j → j < i → NameP (alAt l j)) ∧ (∀ j : Int, 1 ≤ j → j < i → strLt (alAt l (j - 1)) (alAt l j) = true)
theorem AlTo.zero (l : List ByteArray) : AlTo l 0 := ⟨by omega, by omega, by omega, by omega⟩
theorem AlTo.next {l : List ByteArray} {i : Int} (h : AlTo l i) (hi : i < l.length) (h1 : NameP (alAt l i)) (h2 : 0 < i → strLt (alAt l (i - 1)) (alAt l i) = true) : AlTo l (i + 1) := by
  obtain ⟨a, b, c, e⟩ := h
  refine ⟨by omega, by omega, fun j j1 j2 => ?_, fun j j1 j2 => ?_⟩
  · by_cases ej : j = i
    · subst ej; exact h1
    · exact c j j1 (by omega)
  · by_cases ej : j = i
    · subst ej; exact h2 (by omega)
    · exact e j j1 (by omega)
theorem AlTo.last {l : List ByteArray} (h : AlTo l l.length) : alS l = true := al_t ⟨h.2.2.1, h.2.2.2⟩

theorem f81 (d : Nat) (f : FillD) (hs : FillSm f) : ∃ H0, den E (d + 2) 211 [.agg f.cells] [] = some (bl (fillS f), H0) := by
  refine den_ex Tryz.func211 rfl Tryz.ntmps211 (by simp) _ Tryz.results211 ?_
  have s1 := hs.org
  have s2 := hs.len
  repeat' (first | refine i_seq ?_ | refine k_seq ?_ | refine i_region ?_ | refine l_o ?_ | refine l_nil ?_ | (show RD _ _; refine e_do (by simp (disch := omega) only [go_sem, seval]; exact IsX.mk) ?_) | refine s_f ?_ | refine f_s ?_ | refine f_n ?_ | refine l_g rfl rfl ?_ | refine x2_o rfl ?_ | refine x2_n rfl ?_ | refine x2_u ?_ | refine i_cnd rfl ?_ | refine q2_true ?_ | refine q2_false ?_ | refine i_skip ?_ | refine i_label ?_ | refine i_exit ?_ | refine i_ret ?_ | refine k_seqr ?_ | refine k_seqe ?_ | refine i_block ?_ | refine k_blk ?_ | refine k_blkr ?_ | refine k_blke ?_ | refine k_blkn rfl ?_ | refine k_loope ?_ | refine k_loopr ?_ | refine s_t (by simp (disch := omega) only [go_sem, Nat.reduceLeDiff]) ?_ | refine i_draw (by decide +kernel) ?_ | refine r_rt ?_ | refine r_nm ?_ | refine k_d (by simp (disch := omega) only [go_sem, Nat.reduceLT, Nat.reduceEqDiff, ↓reduceIte, ne_eq, not_false_eq_true, Nat.reduceAdd, reduceCtorEq]) rfl ?_)
  refine i_loop (fun i => upd (upd (upd (upd jk 8 (i64 i)) 7 (i64 f.al.length)) 6 (sl f.nilA (f.al.map strC) f.al.length)) 1 (.op 0 0)) (fun i : Int => [.row ⟨f.cells, 69, 5, true⟩])
    (fun i => (f.al.length - i).toNat) (AlTo f.al) 0 (by simp only [rounds]; omega) (by simp (disch := omega) only [go_sem, seval]) (by simp (disch := omega) only [go_sem, seval]) (AlTo.zero _) ?_
  intro i hto
  have h1 := hto.1
  have h2 := hto.2.1
  by_cases hi : i < f.al.length
  · have s3 := hs.al i h1 hi
    by_cases c1 : nameS (alAt f.al i) = true
    · repeat' (first | (first | refine i_seq ?_ | refine k_seq ?_ | refine i_region ?_ | refine l_o ?_ | refine l_nil ?_ | (show RD _ _; refine e_do (by simp (disch := omega) only [go_sem, seval, wr64, c1]; exact IsX.mk) ?_) | refine s_f ?_ | refine f_s ?_ | refine f_n ?_ | refine l_g rfl rfl ?_ | refine x2_o rfl ?_ | refine x2_n rfl ?_ | refine x2_u ?_ | refine i_cnd rfl ?_ | refine q2_true ?_ | refine q2_false ?_ | refine i_skip ?_ | refine i_label ?_ | refine i_exit ?_ | refine i_ret ?_ | refine k_seqr ?_ | refine k_seqe ?_ | refine i_block ?_ | refine k_blk ?_ | refine k_blkr ?_ | refine k_blke ?_ | refine k_blkn rfl ?_ | refine k_loope ?_ | refine k_loopr ?_ | refine s_t (by simp (disch := omega) only [go_sem, Nat.reduceLeDiff]) ?_ | refine i_draw (by decide +kernel) ?_ | refine r_rt ?_ | refine r_nm ?_ | refine k_d (by simp (disch := omega) only [go_sem, Nat.reduceLT, Nat.reduceEqDiff, ↓reduceIte, ne_eq, not_false_eq_true, Nat.reduceAdd, reduceCtorEq]) rfl ?_) | (first | refine x2_split (fun h => ?_) (fun h => ?_) | refine q2_split (fun h => ?_) (fun h => ?_)) <;> (try simp only [beq_iff_eq, bne_iff_ne, beq_eq_false_iff_ne, bne_eq_false_iff_eq, ne_eq, decide_eq_true_eq, decide_eq_false_iff_not, gt_iff_lt, ge_iff_le, Bool.not_eq_true', Bool.not_eq_false'] at h))
      · exact fill_bad (al_bad2 (by assumption) hi (by assumption))
      · exact k_loop (i + 1) (by omega) (by simp (disch := omega) only [go_sem, seval, wr64]) rfl (hto.next hi (name_iff.1 c1) fun _ => by assumption)
      · exact k_loop (i + 1) (by omega) (by simp (disch := omega) only [go_sem, seval, wr64]) rfl (hto.next hi (name_iff.1 c1) fun _ => by omega)
    · have c1' := Bool.eq_false_iff.2 c1
      repeat' (first | refine i_seq ?_ | refine k_seq ?_ | refine i_region ?_ | refine l_o ?_ | refine l_nil ?_ | (show RD _ _; refine e_do (by simp (disch := omega) only [go_sem, seval, wr64, c1']; exact IsX.mk) ?_) | refine s_f ?_ | refine f_s ?_ | refine f_n ?_ | refine l_g rfl rfl ?_ | refine x2_o rfl ?_ | refine x2_n rfl ?_ | refine x2_u ?_ | refine i_cnd rfl ?_ | refine q2_true ?_ | refine q2_false ?_ | refine i_skip ?_ | refine i_label ?_ | refine i_exit ?_ | refine i_ret ?_ | refine k_seqr ?_ | refine k_seqe ?_ | refine i_block ?_ | refine k_blk ?_ | refine k_blkr ?_ | refine k_blke ?_ | refine k_blkn rfl ?_ | refine k_loope ?_ | refine k_loopr ?_ | refine s_t (by simp (disch := omega) only [go_sem, Nat.reduceLeDiff]) ?_ | refine i_draw (by decide +kernel) ?_ | refine r_rt ?_ | refine r_nm ?_ | refine k_d (by simp (disch := omega) only [go_sem, Nat.reduceLT, Nat.reduceEqDiff, ↓reduceIte, ne_eq, not_false_eq_true, Nat.reduceAdd, reduceCtorEq]) rfl ?_)
      exact fill_bad (al_bad1 h1 hi c1')
  · have : i = f.al.length := by omega
    subst this
    have ha := hto.last
    repeat' (first | (first | refine i_seq ?_ | refine k_seq ?_ | refine i_region ?_ | refine l_o ?_ | refine l_nil ?_ | (show RD _ _; refine e_do (by simp (disch := omega) only [go_sem, seval, wr64]; exact IsX.mk) ?_) | refine s_f ?_ | refine f_s ?_ | refine f_n ?_ | refine l_g rfl rfl ?_ | refine x2_o rfl ?_ | refine x2_n rfl ?_ | refine x2_u ?_ | refine i_cnd rfl ?_ | refine q2_true ?_ | refine q2_false ?_ | refine i_skip ?_ | refine i_label ?_ | refine i_exit ?_ | refine i_ret ?_ | refine k_seqr ?_ | refine k_seqe ?_ | refine i_block ?_ | refine k_blk ?_ | refine k_blkr ?_ | refine k_blke ?_ | refine k_blkn rfl ?_ | refine k_loope ?_ | refine k_loopr ?_ | refine s_t (by simp (disch := omega) only [go_sem, Nat.reduceLeDiff]) ?_ | refine i_draw (by decide +kernel) ?_ | refine r_rt ?_ | refine r_nm ?_ | refine k_d (by simp (disch := omega) only [go_sem, Nat.reduceLT, Nat.reduceEqDiff, ↓reduceIte, ne_eq, not_false_eq_true, Nat.reduceAdd, reduceCtorEq]) rfl ?_) | (first | refine x2_split (fun h => ?_) (fun h => ?_) | refine q2_split (fun h => ?_) (fun h => ?_)) <;> (try simp only [beq_iff_eq, bne_iff_ne, beq_eq_false_iff_ne, bne_eq_false_iff_eq, ne_eq, decide_eq_true_eq, decide_eq_false_iff_not, gt_iff_lt, ge_iff_le, Bool.not_eq_true', Bool.not_eq_false'] at h))
    all_goals refine bl_congr ?_
    all_goals simp_all [fillS]
    all_goals omega
@[go_sem] theorem c81 (d : Nat) (f : FillD) (H : Hp) (hs : FillSm f) : callV E (den E (d + 2)) 211 [.agg f.cells] H = some (bl (fillS f), H) := callV_plain rfl rfl rfl (by simp (disch := omega) only [go_sem, seval]) (f81 d f hs) rfl

theorem bless_total : ∀ (x y : List UInt8), (Op.bytesLess x y || x == y) = !Op.bytesLess y x
  | [], [] => rfl
  | [], b :: y => rfl
  | a :: x, [] => rfl
  | a :: x, b :: y => by
    have ih := bless_total x y
    simp only [Op.bytesLess]
    by_cases h1 : a < b
    · have h2 : ¬ b < a := by simp only [UInt8.lt_iff_toNat_lt] at *; omega
      have h3 : ¬ b = a := by rintro rfl; exact h2 h1
      simp [h1, h2, h3]
    · by_cases h2 : a = b
      · subst h2
        simpa using ih
      · have h3 : b < a := by
          simp only [UInt8.lt_iff_toNat_lt] at *
          have : a.toNat ≠ b.toNat := fun e => h2 (UInt8.toNat_inj.1 e)
          omega
        simp [h1, h2, h3]
theorem str_le (a b : ByteArray) : (strLt a b || strEq a b) = !strLt b a := bless_total _ _

theorem f93 (d : Nat) (f : FillD) (hs : FillSm f) : ∃ H0, den E (d + 2) 129 [.agg f.cells] [] = some (bl (fillS f), H0) := by
  refine den_ex Tryz.func129 rfl Tryz.ntmps129 (by simp) _ Tryz.results129 ?_
  have s1 := hs.org
  have s2 := hs.len
  repeat' (first | (first | refine i_seq ?_ | refine k_seq ?_ | refine i_region ?_ | refine l_o ?_ | refine l_nil ?_ | (show RD _ _; refine e_do (by simp (disch := omega) only [go_sem, seval]; exact IsX.mk) ?_) | refine s_f ?_ | refine f_s ?_ | refine f_n ?_ | refine l_g rfl rfl ?_ | refine x2_o rfl ?_ | refine x2_n rfl ?_ | refine x2_u ?_ | refine i_cnd rfl ?_ | refine q2_true ?_ | refine q2_false ?_ | refine i_skip ?_ | refine i_label ?_ | refine i_exit ?_ | refine i_ret ?_ | refine k_seqr ?_ | refine k_seqe ?_ | refine i_block ?_ | refine k_blk ?_ | refine k_blkr ?_ | refine k_blke ?_ | refine k_blkn rfl ?_ | refine k_loope ?_ | refine k_loopr ?_ | refine s_t (by simp (disch := omega) only [go_sem, Nat.reduceLeDiff]) ?_ | refine i_draw (by decide +kernel) ?_ | refine r_rt ?_ | refine r_nm ?_ | refine k_d (by simp (disch := omega) only [go_sem, Nat.reduceLT, Nat.reduceEqDiff, ↓reduceIte, ne_eq, not_false_eq_true, Nat.reduceAdd, reduceCtorEq]) rfl ?_) | (first | refine x2_split (fun h => ?_) (fun h => ?_) | refine q2_split (fun h => ?_) (fun h => ?_)) <;> (try simp only [beq_iff_eq, bne_iff_ne, beq_eq_false_iff_ne, bne_eq_false_iff_eq, ne_eq, decide_eq_true_eq, decide_eq_false_iff_not, gt_iff_lt, ge_iff_le, Bool.not_eq_true', Bool.not_eq_false'] at h))
  all_goals try (refine bl_congr ?_; simp_all [fillS]; done)
  all_goals try (refine bl_congr ?_; simp_all [fillS]; omega)
  refine i_loop (fun i => upd (upd jk 3 (i64 i)) 1 (.op 0 0)) (fun i : Int => [.row ⟨f.cells, 69, 5, true⟩])
    (fun i => (f.al.length - i).toNat) (AlTo f.al) 0 (by simp only [rounds]; omega) (by simp (disch := omega) only [go_sem, seval]) (by simp (disch := omega) only [go_sem, seval]) (AlTo.zero _) ?_
  intro i hto
  have h1 := hto.1
  have h2 := hto.2.1
  by_cases hi : i < f.al.length
  · have s3 := hs.al i h1 hi
    by_cases c1 : nameS (alAt f.al i) = true
    · repeat' (first | (first | refine i_seq ?_ | refine k_seq ?_ | refine i_region ?_ | refine l_o ?_ | refine l_nil ?_ | (show RD _ _; refine e_do (by simp (disch := omega) only [go_sem, seval, wr64, c1, str_le]; exact IsX.mk) ?_) | refine s_f ?_ | refine f_s ?_ | refine f_n ?_ | refine l_g rfl rfl ?_ | refine x2_o rfl ?_ | refine x2_n rfl ?_ | refine x2_u ?_ | refine i_cnd rfl ?_ | refine q2_true ?_ | refine q2_false ?_ | refine i_skip ?_ | refine i_label ?_ | refine i_exit ?_ | refine i_ret ?_ | refine k_seqr ?_ | refine k_seqe ?_ | refine i_block ?_ | refine k_blk ?_ | refine k_blkr ?_ | refine k_blke ?_ | refine k_blkn rfl ?_ | refine k_loope ?_ | refine k_loopr ?_ | refine s_t (by simp (disch := omega) only [go_sem, Nat.reduceLeDiff]) ?_ | refine i_draw (by decide +kernel) ?_ | refine r_rt ?_ | refine r_nm ?_ | refine k_d (by simp (disch := omega) only [go_sem, Nat.reduceLT, Nat.reduceEqDiff, ↓reduceIte, ne_eq, not_false_eq_true, Nat.reduceAdd, reduceCtorEq]) rfl ?_) | (first | refine x2_split (fun h => ?_) (fun h => ?_) | refine q2_split (fun h => ?_) (fun h => ?_)) <;> (try simp only [beq_iff_eq, bne_iff_ne, beq_eq_false_iff_ne, bne_eq_false_iff_eq, ne_eq, decide_eq_true_eq, decide_eq_false_iff_not, gt_iff_lt, ge_iff_le, Bool.not_eq_true', Bool.not_eq_false'] at h))
      · exact fill_bad (al_bad2 (by assumption) hi (by assumption))
      · exact k_loop (i + 1) (by omega) (by simp (disch := omega) only [go_sem, seval, wr64]) rfl (hto.next hi (name_iff.1 c1) fun _ => by assumption)
      · exact k_loop (i + 1) (by omega) (by simp (disch := omega) only [go_sem, seval, wr64]) rfl (hto.next hi (name_iff.1 c1) fun _ => by omega)
    · have c1' := Bool.eq_false_iff.2 c1
      repeat' (first | refine i_seq ?_ | refine k_seq ?_ | refine i_region ?_ | refine l_o ?_ | refine l_nil ?_ | (show RD _ _; refine e_do (by simp (disch := omega) only [go_sem, seval, wr64, c1']; exact IsX.mk) ?_) | refine s_f ?_ | refine f_s ?_ | refine f_n ?_ | refine l_g rfl rfl ?_ | refine x2_o rfl ?_ | refine x2_n rfl ?_ | refine x2_u ?_ | refine i_cnd rfl ?_ | refine q2_true ?_ | refine q2_false ?_ | refine i_skip ?_ | refine i_label ?_ | refine i_exit ?_ | refine i_ret ?_ | refine k_seqr ?_ | refine k_seqe ?_ | refine i_block ?_ | refine k_blk ?_ | refine k_blkr ?_ | refine k_blke ?_ | refine k_blkn rfl ?_ | refine k_loope ?_ | refine k_loopr ?_ | refine s_t (by simp (disch := omega) only [go_sem, Nat.reduceLeDiff]) ?_ | refine i_draw (by decide +kernel) ?_ | refine r_rt ?_ | refine r_nm ?_ | refine k_d (by simp (disch := omega) only [go_sem, Nat.reduceLT, Nat.reduceEqDiff, ↓reduceIte, ne_eq, not_false_eq_true, Nat.reduceAdd, reduceCtorEq]) rfl ?_)
      exact fill_bad (al_bad1 h1 hi c1')
  · have : i = f.al.length := by omega
    subst this
    have ha := hto.last
    repeat' (first | refine i_seq ?_ | refine k_seq ?_ | refine i_region ?_ | refine l_o ?_ | refine l_nil ?_ | (show RD _ _; refine e_do (by simp (disch := omega) only [go_sem, seval, wr64]; exact IsX.mk) ?_) | refine s_f ?_ | refine f_s ?_ | refine f_n ?_ | refine l_g rfl rfl ?_ | refine x2_o rfl ?_ | refine x2_n rfl ?_ | refine x2_u ?_ | refine i_cnd rfl ?_ | refine q2_true ?_ | refine q2_false ?_ | refine i_skip ?_ | refine i_label ?_ | refine i_exit ?_ | refine i_ret ?_ | refine k_seqr ?_ | refine k_seqe ?_ | refine i_block ?_ | refine k_blk ?_ | refine k_blkr ?_ | refine k_blke ?_ | refine k_blkn rfl ?_ | refine k_loope ?_ | refine k_loopr ?_ | refine s_t (by simp (disch := omega) only [go_sem, Nat.reduceLeDiff]) ?_ | refine i_draw (by decide +kernel) ?_ | refine r_rt ?_ | refine r_nm ?_ | refine k_d (by simp (disch := omega) only [go_sem, Nat.reduceLT, Nat.reduceEqDiff, ↓reduceIte, ne_eq, not_false_eq_true, Nat.reduceAdd, reduceCtorEq]) rfl ?_)
    refine bl_congr ?_
    simp_all [fillS]
    omega
@[go_sem] theorem c93 (d : Nat) (f : FillD) (H : Hp) (hs : FillSm f) : callV E (den E (d + 2)) 129 [.agg f.cells] H = some (bl (fillS f), H) := callV_plain rfl rfl rfl (by simp (disch := omega) only [go_sem, seval]) (f93 d f hs) rfl
end Go.Age
end
section
set_option linter.all false
set_option linter.unusedVariables false
set_option linter.unusedSimpArgs false
namespace Go.Den
@[go_sem] theorem el_sl0 (H : Hp) (sz : Nat) (b : Bool) : elemsC sz H (sl b [] 0) = some (0, []) := by
  rcases sl_cases b [] 0 with ⟨h1, _, _⟩ | h1 <;> rw [h1]
  · rfl
  · simp [elemsC]
@[go_sem] theorem apG_zeroT {inst : Decidable True} (lv : Bool) (c2 : Prop) [Decidable c2] (a b) : @apG True inst lv c2 _ 0 a b = some a := by simp [apG]
@[go_sem] theorem zero_mul' (n : Nat) : 0 * n = 0 := Nat.zero_mul n
@[go_sem] theorem ann (n : Nat) : (n + 0) = n := rfl
end Go.Den
namespace Go.Age
open Go.Den
theorem all_al (l : List ByteArray) : (l.map strC).all CV.leaf = true := by simp [CV.leaf, valLeaf]
theorem snap_al (H : Hp) (k : Nat) : ∀ l : List ByteArray, omap (snap H (k + 1)) (l.map strC) = some (l.map strC)
  | [] => rfl
  | a :: l => by
    have ih := snap_al H k l
    have e : snap H (k + 1) (strC a) = some (strC a) := rfl
    rw [List.map_cons, omap_cons, e, ih]
theorem ids_al (H : Hp) (k : Nat) : ∀ l : List ByteArray, (l.map strC).flatMap (ids H k) = []
  | [] => rfl
  | a :: l => by
    simp only [List.map_cons, List.flatMap_cons, ids_al H k l]
    cases k <;> rfl
theorem von_al (l : List ByteArray) : (l.map strC).all vOnly = true := by simp [vOnly]
attribute [go_sem] all_al ids_al von_al
@[go_sem] theorem snap_al8 (H : Hp) (l : List ByteArray) : omap (snap H 8) (l.map strC) = some (l.map strC) := snap_al H 7 l
@[go_sem] theorem snap_al7 (H : Hp) (l : List ByteArray) : omap (snap H 7) (l.map strC) = some (l.map strC) := snap_al H 6 l
@[go_sem] theorem snap_al6 (H : Hp) (l : List ByteArray) : omap (snap H 6) (l.map strC) = some (l.map strC) := snap_al H 5 l
@[go_sem] theorem ids_al8 (H : Hp) (l : List ByteArray) : (l.map strC).flatMap (ids H 8) = [] := ids_al H 8 l
end Go.Age
end
section
set_option linter.all false
set_option linter.unusedVariables false
set_option linter.unusedSimpArgs false
set_option maxRecDepth 100000
set_option maxHeartbeats 4000000
attribute [local irreducible] Go.Den.W Go.Den.WL Go.Den.WX Go.Den.WQ Go.Den.QR Go.Den.WG Go.Den.WO Go.Den.WK Go.Den.grows Go.Den.stepOp Go.Den.callV Go.Den.den
namespace Go.Age
open Go.Den Go.Proofs
theorem f64 (d : Nat) (f : FillD) (hs : FillSm f) : ∃ c H1, den E (d + 1) 131 [.agg f.cells] [] = some (c, H1) ∧ ∃ id, c = .agg [i64 f.id, i64 f.cls, i64 f.day, strC f.org, .own id 0 f.al.length 1] ∧ getR H1 id = some ⟨f.al.map strC, 9, 1, true⟩ := by
  refine den_of_W Tryz.func131 rfl Tryz.ntmps131 (by simp) _ Tryz.results131 ?_
  have s2 := hs.len
  have hl := len_al f.al
  by_cases h0 : f.al = []
  · repeat' (first | refine i_seq ?_ | refine k_seq ?_ | refine i_region ?_ | refine l_o ?_ | refine l_nil ?_ | (show RD _ _; refine e_do (by simp (disch := omega) only [go_sem, seval, h0]; exact IsX.mk) ?_) | refine s_f ?_ | refine f_s ?_ | refine f_n ?_ | refine l_g rfl rfl ?_ | refine x2_o rfl ?_ | refine x2_n rfl ?_ | refine x2_u ?_ | refine i_cnd rfl ?_ | refine q2_true ?_ | refine q2_false ?_ | refine i_skip ?_ | refine i_label ?_ | refine i_exit ?_ | refine i_ret ?_ | refine k_seqr ?_ | refine k_seqe ?_ | refine i_block ?_ | refine k_blk ?_ | refine k_blkr ?_ | refine k_blke ?_ | refine k_blkn rfl ?_ | refine k_loope ?_ | refine k_loopr ?_ | refine s_t (by simp (disch := omega) only [go_sem, Nat.reduceLeDiff]) ?_ | refine i_draw (by decide +kernel) ?_ | refine r_rt ?_ | refine r_nm ?_ | refine k_d (by simp (disch := omega) only [go_sem, Nat.reduceLT, Nat.reduceEqDiff, ↓reduceIte, ne_eq, not_false_eq_true, Nat.reduceAdd, reduceCtorEq]) rfl ?_)
    exact ⟨2, by simp [h0], by rw [h0]; rfl⟩
  · have h0' : ¬ f.al.length = 0 := by simpa using h0
    repeat' (first | refine i_seq ?_ | refine k_seq ?_ | refine i_region ?_ | refine l_o ?_ | refine l_nil ?_ | (show RD _ _; refine e_do (by simp (disch := omega) only [go_sem, seval, h0', all_al]; exact IsX.mk) ?_) | refine s_f ?_ | refine f_s ?_ | refine f_n ?_ | refine l_g rfl rfl ?_ | refine x2_o rfl ?_ | refine x2_n rfl ?_ | refine x2_u ?_ | refine i_cnd rfl ?_ | refine q2_true ?_ | refine q2_false ?_ | refine i_skip ?_ | refine i_label ?_ | refine i_exit ?_ | refine i_ret ?_ | refine k_seqr ?_ | refine k_seqe ?_ | refine i_block ?_ | refine k_blk ?_ | refine k_blkr ?_ | refine k_blke ?_ | refine k_blkn rfl ?_ | refine k_loope ?_ | refine k_loopr ?_ | refine s_t (by simp (disch := omega) only [go_sem, Nat.reduceLeDiff]) ?_ | refine i_draw (by decide +kernel) ?_ | refine r_rt ?_ | refine r_nm ?_ | refine k_d (by simp (disch := omega) only [go_sem, Nat.reduceLT, Nat.reduceEqDiff, ↓reduceIte, ne_eq, not_false_eq_true, Nat.reduceAdd, reduceCtorEq]) rfl ?_)
    exact ⟨3, by simp, rfl⟩
abbrev FillD.own (f : FillD) (id : Nat) : CV := .agg [i64 f.id, i64 f.cls, i64 f.day, strC f.org, .own id 0 f.al.length 1]
abbrev FillD.row (f : FillD) : Blk := .row ⟨f.al.map strC, 9, 1, true⟩
@[go_sem] theorem c64 (d : Nat) (f : FillD) (H : Hp) (hs : FillSm f) : callV E (den E (d + 1)) 131 [.agg f.cells] H = some (f.own H.length, H ++ [f.row]) := by
  obtain ⟨c, H1, h1, id, rfl, h2⟩ := f64 d f hs
  rw [callV_data (args' := [.agg f.cells]) (r' := .agg [i64 f.id, i64 f.cls, i64 f.day, strC f.org, .fr (f.al.map strC) f.al.length 9 1]) rfl rfl rfl (by simp (disch := omega) only [go_sem, seval]) h1 (by simp (disch := omega) only [go_sem, seval, h2, len_al, Nat.mul_one]) (by simp (disch := omega) only [go_sem, seval])]
  simp (disch := omega) only [go_sem, seval]
end Go.Age
end
section
set_option linter.all false
set_option linter.unusedVariables false
set_option linter.unusedSimpArgs false
set_option maxRecDepth 100000
set_option maxHeartbeats 4000000
attribute [local irreducible] Go.Den.W Go.Den.WL Go.Den.WX Go.Den.WQ Go.Den.QR Go.Den.WG Go.Den.WO Go.Den.WK Go.Den.grows Go.Den.stepOp Go.Den.callV Go.Den.den
namespace Go.Age
open Go.Den Go.Proofs
structure ShD where
  fill : Int
  alc : Int
instance : Inhabited ShD := ⟨⟨0, 0⟩⟩
structure LotD where
  id : Int
  alc : Int
  mass : Int
  nilS : Bool
  sh : List ShD
instance : Inhabited LotD := ⟨⟨0, 0, 0, true, []⟩⟩
structure CellarD where
  nilF : Bool
  fills : List FillD
  nilL : Bool
  lots : List LotD
  nilR : Bool
  rem : List CV
  nR : Nat
  last : Int
abbrev ShD.cells (s : ShD) : List CV := [i64 s.fill, i64 s.alc]
def flS (l : List ShD) : List CV := l.flatMap ShD.cells
abbrev LotD.cells (x : LotD) : List CV := [i64 x.id, i64 x.alc, i64 x.mass, sl x.nilS (flS x.sh) x.sh.length]
def flF (l : List FillD) : List CV := l.flatMap FillD.cells
def flL (l : List LotD) : List CV := l.flatMap LotD.cells
abbrev CellarD.cells (c : CellarD) : List CV := [sl c.nilF (flF c.fills) c.fills.length, sl c.nilL (flL c.lots) c.lots.length, sl c.nilR c.rem c.nR, i64 c.last]
def fAt (l : List FillD) (i : Int) : FillD := l.getD i.toNat default
def lAt (l : List LotD) (i : Int) : LotD := l.getD i.toNat default
def sAt (l : List ShD) (i : Int) : ShD := l.getD i.toNat default
@[go_sem] theorem drop_flF (l : List FillD) (i : Int) (h : 0 ≤ i ∧ i < l.length) : List.drop (i.toNat * 5) (flF l) = i64 (fAt l i).id :: i64 (fAt l i).cls :: i64 (fAt l i).day :: strC (fAt l i).org :: sl (fAt l i).nilA ((fAt l i).al.map strC) (fAt l i).al.length :: List.drop ((i.toNat + 1) * 5) (flF l) :=
  drop_at FillD.cells 5 (fun _ => rfl) default l i.toNat (by omega)
@[go_sem] theorem drop_flL (l : List LotD) (i : Int) (h : 0 ≤ i ∧ i < l.length) : List.drop (i.toNat * 4) (flL l) = i64 (lAt l i).id :: i64 (lAt l i).alc :: i64 (lAt l i).mass :: sl (lAt l i).nilS (flS (lAt l i).sh) (lAt l i).sh.length :: List.drop ((i.toNat + 1) * 4) (flL l) :=
  drop_at LotD.cells 4 (fun _ => rfl) default l i.toNat (by omega)
@[go_sem] theorem drop_flS (l : List ShD) (i : Int) (h : 0 ≤ i ∧ i < l.length) : List.drop (i.toNat * 2) (flS l) = i64 (sAt l i).fill :: i64 (sAt l i).alc :: List.drop ((i.toNat + 1) * 2) (flS l) :=
  drop_at ShD.cells 2 (fun _ => rfl) default l i.toNat (by omega)
@[go_sem] theorem len_flF (l : List FillD) : (flF l).length = 5 * l.length := flat_len _ 5 (fun _ => rfl) l
@[go_sem] theorem len_flL (l : List LotD) : (flL l).length = 4 * l.length := flat_len _ 4 (fun _ => rfl) l
@[go_sem] theorem len_flS (l : List ShD) : (flS l).length = 2 * l.length := flat_len _ 2 (fun _ => rfl) l
def IsFill (l : List FillD) (id : Int) (i : Int) : Prop := 0 ≤ i ∧ i < l.length ∧ (fAt l i).id = id ∧ ∀ j : Int, 0 ≤ j → j < i → (fAt l j).id ≠ id
def NoFill (l : List FillD) (id : Int) (i : Int) : Prop := ∀ j : Int, 0 ≤ j → j < i → (fAt l j).id ≠ id
structure FillsSm (l : List FillD) : Prop where
  n : l.length ≤ 1000
  f : ∀ i : Int, 0 ≤ i → i < l.length → FillSm (fAt l i)
end Go.Age
end
section
set_option linter.all false
set_option linter.unusedVariables false
set_option linter.unusedSimpArgs false
set_option maxRecDepth 100000
namespace Go.Age
open Go.Den Go.Proofs Go.RowKit
abbrev noMu : Mu := fun _ => none
abbrev stW (w : World) : Nat → Prop := fun b => b < w.heap.size
section
variable {H : Type} {enc : TypeId × Value → H} {w : World} {sp : Nat → Bool} {held : Bool}
theorem some_of_mapM {α β : Type} {f : α → Option β} {l : List α} {r : List β} (h : l.mapM f = some r) {x : α} (hx : x ∈ l) : ∃ y, f x = some y := by
  cases e : f x with
  | some y => exact ⟨y, rfl⟩
  | none => rw [mapM_none_of hx e] at h; cases h
def Opens (P : Program) (enc : TypeId × Value → H) (w : World) (sp : Nat → Bool) (held : Bool) (t : TypeId) (sz : Nat) {α : Type} (g : α → List CV) : Prop :=
  ∀ fuel cs x, DataW.trod enc P w 0 sp held fuel t cs = some x → cs.length = sz ∧ ∃ a : α, (g a).length = sz ∧ VRels noMu (stW w) w (g a) cs
theorem add_add (a : Addr) (i j : Nat) : (a.add i).add j = a.add (i + j) := by
  unfold Addr.add
  by_cases h1 : i = 0
  · by_cases h2 : j = 0
    · simp [h1, h2]
    · simp [h1, h2]
  · by_cases h2 : j = 0
    · simp [h1, h2]
    · have : ¬ (i + j = 0) := by omega
      simp [h1, h2, this, Nat.add_assoc]
theorem cells_at {a : Addr} {i sz : Nat} {cs : List Value} (h : w.cells? 0 (a.add (i * sz)) sz = some cs) : cs.length = sz ∧ ∀ j x, cs[j]? = some x → w.cell? (a.add (i * sz + j)) = some x := by
  obtain ⟨_, hl, hc⟩ := World.cells?_some h
  refine ⟨hl, fun j x hj => ?_⟩
  have hjs : j < sz := by rw [← hl]; exact (List.getElem?_eq_some_iff.1 hj).1
  have := hc j hjs
  rw [hj, add_add] at this
  exact this
theorem cell_block {a : Addr} {x : Value} (h : w.cell? a = some x) : a.block < w.heap.size := by
  unfold World.cell? at h
  split at h
  · rename_i e; exact (Array.getElem?_eq_some_iff.1 e).1
  · cases h
theorem openSl {P : Program} {t e : TypeId} {sz : Nat} {α : Type} {g : α → List CV} (ht : P.underlying t = some (.slice e)) (hsz : P.cellsOf e = sz) (hg : Opens P enc w sp held e sz g) {fuel : Nat} {cs : List Value} {x : DataW H × List MemPlace}
    (h : DataW.trod enc P w 0 sp held fuel t cs = some x) : ∃ (b : Bool) (l : List α) (v : Value), cs = [v] ∧ VRel noMu (stW w) w (sl b (l.flatMap g) l.length) v := by
  cases fuel with
  | zero => simp [DataW.trod] at h
  | succ fuel =>
    unfold DataW.trod at h
    simp only [ht] at h
    split at h <;> try (first | (rename_i hh; cases hh; done) | (cases h; done))
    · refine ⟨true, [], _, rfl, ?_⟩
      simp only [sl, List.length_nil, Bool.true_and, beq_self_eq_true, if_true, VRel]
    · rename_i e' a len cap hh
      cases hh
      subst hsz
      split at h
      rotate_left
      · cases h
      rename_i hb
      simp only [Option.bind_eq_bind, Option.bind_eq_some_iff] at h
      obtain ⟨elems, he, _⟩ := h
      have each : ∀ i, i < len → ∃ cs, w.cells? 0 (a.add (i * P.cellsOf e)) (P.cellsOf e) = some cs ∧ ∃ y, DataW.trod enc P w 0 sp held fuel e cs = some y := by
        intro i hi
        obtain ⟨y, hy⟩ := some_of_mapM he (x := i) (by simpa using hi)
        simp only [Option.bind_eq_some_iff] at hy
        obtain ⟨cs, h1, h2⟩ := hy
        exact ⟨cs, h1, y, h2⟩
      have all : ∀ n, n ≤ len → ∃ (l : List α) (vs : List Value), l.length = n ∧ vs.length = n * P.cellsOf e ∧ VRels noMu (stW w) w (l.flatMap g) vs ∧ ∀ j x, vs[j]? = some x → w.cell? (a.add j) = some x := by
        intro n
        induction n with
        | zero => intro _; exact ⟨[], [], rfl, by simp, VRels.nil, fun j x hj => by simp at hj⟩
        | succ n ih =>
          intro hn
          obtain ⟨l, vs, h1, h2, h3, h4⟩ := ih (by omega)
          obtain ⟨cs, k1, y, k2⟩ := each n (by omega)
          obtain ⟨k3, k4⟩ := cells_at k1
          obtain ⟨_, α', k5, k6⟩ := hg fuel cs y k2
          refine ⟨l ++ [α'], vs ++ cs, by simp [h1], by rw [List.length_append, h2, k3, Nat.add_mul, Nat.one_mul], ?_, fun j x hj => ?_⟩
          · simpa using h3.append k6
          · rw [List.getElem?_append] at hj
            split at hj
            · exact h4 j x hj
            · rename_i hlt
              have := k4 _ x hj
              rw [h2] at this hlt
              rwa [show n * P.cellsOf e + (j - n * P.cellsOf e) = j by omega] at this
      obtain ⟨l, vs, h1, h2, h3, h4⟩ := all len (Nat.le_refl _)
      refine ⟨false, l, _, rfl, ?_⟩
      rw [sl_ro]
      simp only [VRel]
      refine ⟨some a, cap, vs, by rw [h1], by omega, hb.2.2, h3, fun j x hj => ⟨a, rfl, ?_, h4 j x hj⟩, by simp⟩
      have := cell_block (h4 j x hj)
      rwa [add_block'] at this
theorem i64_open {P : Program} {t : TypeId} (ht : P.underlying t = some (.int .i64)) {fuel : Nat} {cs : List Value} {x : DataW H × List MemPlace} (h : DataW.trod enc P w 0 sp held fuel t cs = some x) : ∃ n : Int, cs = [.int .i64 n] := by
  cases fuel with
  | zero => simp [DataW.trod] at h
  | succ fuel =>
    unfold DataW.trod at h
    simp only [ht] at h
    split at h <;> try (first | (rename_i hh; cases hh; done) | (cases h; done))
    rename_i k k' n hh
    split at h
    · rename_i hk
      obtain ⟨rfl, _⟩ := hk
      cases hh
      exact ⟨n, rfl⟩
    · cases h
theorem str_open {P : Program} {t : TypeId} (ht : P.underlying t = some .string) {fuel : Nat} {cs : List Value} {x : DataW H × List MemPlace} (h : DataW.trod enc P w 0 sp held fuel t cs = some x) : ∃ s : ByteArray, cs = [.string s] := by
  cases fuel with
  | zero => simp [DataW.trod] at h
  | succ fuel =>
    unfold DataW.trod at h
    simp only [ht] at h
    split at h <;> try (first | (rename_i hh; cases hh; done) | (cases h; done))
    rename_i s hh
    exact ⟨s, rfl⟩
theorem struct_open {P : Program} {t : TypeId} {fs : Array Field} (ht : P.underlying t = some (.struct fs)) {fuel : Nat} {cs : List Value} {x : DataW H × List MemPlace} (h : DataW.trod enc P w 0 sp held fuel t cs = some x) :
    cs.length = P.cellsOf t ∧ ∃ fuel', ∀ f ∈ fs.toList, ∃ y, DataW.trod enc P w 0 sp held fuel' f.type ((cs.drop f.offset).take (P.cellsOf f.type)) = some y := by
  cases fuel with
  | zero => simp [DataW.trod] at h
  | succ fuel =>
    unfold DataW.trod at h
    simp only [ht] at h
    split at h
    · rename_i hl
      simp only [Option.map_eq_some_iff] at h
      obtain ⟨xs, hx, _⟩ := h
      exact ⟨hl, fuel, fun f hf => some_of_mapM hx hf⟩
    · cases h
noncomputable abbrev TP := Tryz.prog
theorem cs3 : TP.cellsOf 3 = 1 := by kernel_rfl
theorem cs9 : TP.cellsOf 9 = 1 := by kernel_rfl
theorem cs28 : TP.cellsOf 28 = 1 := by kernel_rfl
theorem v_rel (x : Value) : VRel noMu (stW w) w (.v x) x := by simp only [VRel]
theorem openStr : Opens TP enc w sp held 9 1 (fun s : ByteArray => [strC s]) := by
  intro fuel cs x h
  obtain ⟨s, rfl⟩ := str_open Tryz.underlying9 h
  exact ⟨rfl, s, rfl, VRels.cons (v_rel _) VRels.nil⟩
theorem one_of {α : Type} {l : List α} {n : Nat} {a : α} (h : (l.drop n).take 1 = [a]) : l[n]? = some a := by
  have := congrArg (fun x => x[0]?) h
  simpa using this
theorem list4 {α : Type} {l : List α} {a b c d : α} (hl : l.length = 4) (h0 : l[0]? = some a) (h1 : l[1]? = some b) (h2 : l[2]? = some c) (h3 : l[3]? = some d) : l = [a, b, c, d] := by
  match l, hl with
  | [x, y, z, u], _ => simp at h0 h1 h2 h3; simp [h0, h1, h2, h3]
end
end Go.Age
end
