/- Fills, walked. -/
import Derived.Test.YtadmocbjnalnmaaGreatAgeStr
import Derived.Test.YtadmocbjnalnmaaGreatDenTac
set_option linter.all false
set_option linter.unusedVariables false
set_option linter.unusedSimpArgs false
set_option maxRecDepth 100000
set_option maxHeartbeats 4000000
attribute [local irreducible] Go.Den.W Go.Den.WL Go.Den.WX Go.Den.WQ Go.Den.QR Go.Den.WG Go.Den.WO Go.Den.WK Go.Den.grows Go.Den.stepOp Go.Den.callV Go.Den.den
namespace Go.Age
open Go.Den Go.Proofs
structure FillD where
  id : Int
  cls : Int
  day : Int
  org : ByteArray
  nilA : Bool
  al : List ByteArray
abbrev FillD.cells (f : FillD) : List CV := [i64 f.id, i64 f.cls, i64 f.day, strC f.org, sl f.nilA (f.al.map strC) f.al.length]
instance : Inhabited FillD := ⟨⟨0, 0, 0, ⟨#[]⟩, true, []⟩⟩
def alAt (l : List ByteArray) (i : Int) : ByteArray := l.getD i.toNat ⟨#[]⟩
theorem drop_at {α : Type} (g : α → List CV) (k : Nat) (hk : ∀ a, (g a).length = k) (d : α) (l : List α) : ∀ (n : Nat), n < l.length → List.drop (n * k) (l.flatMap g) = g (l.getD n d) ++ List.drop ((n + 1) * k) (l.flatMap g) := by
  induction l with
  | nil => intro n h; simp at h
  | cons a l ih =>
    intro n h
    cases n with
    | zero => simp [hk a]
    | succ n =>
      simp only [List.flatMap_cons, List.getD_cons_succ]
      have h1 : ∀ m : Nat, List.drop ((m + 1) * k) (g a ++ l.flatMap g) = List.drop (m * k) (l.flatMap g) := by
        intro m
        rw [List.drop_append, List.drop_eq_nil_of_le (by rw [hk a]; exact Nat.le_mul_of_pos_left k (by omega)), hk a, Nat.add_mul, Nat.one_mul, Nat.add_sub_cancel, List.nil_append]
      rw [h1, h1]
      exact ih n (by simpa using h)
theorem flat_len {α : Type} (g : α → List CV) (k : Nat) (hk : ∀ a, (g a).length = k) (l : List α) : (l.flatMap g).length = k * l.length := by
  induction l with
  | nil => simp
  | cons a l ih => simp [hk a, ih, Nat.mul_add]; omega
theorem map_flat (l : List ByteArray) : l.map strC = l.flatMap fun s => [strC s] := by
  induction l with
  | nil => rfl
  | cons a l ih => simp [ih]
@[go_sem] theorem drop_al (l : List ByteArray) (i : Int) (h : 0 ≤ i ∧ i < l.length) : List.drop (i.toNat * 1) (l.map strC) = strC (alAt l i) :: List.drop ((i.toNat + 1) * 1) (l.map strC) := by
  rw [map_flat]
  exact drop_at _ 1 (fun _ => rfl) _ l i.toNat (by omega)
@[go_sem] theorem len_al (l : List ByteArray) : (l.map strC).length = l.length := by simp

structure AlP (l : List ByteArray) : Prop where
  n : ∀ i : Int, 0 ≤ i → i < l.length → NameP (alAt l i)
  o : ∀ i : Int, 1 ≤ i → i < l.length → strLt (alAt l (i - 1)) (alAt l i) = true
open Classical in
noncomputable def alS (l : List ByteArray) : Bool := decide (AlP l)
theorem al_t {l} (h : AlP l) : alS l = true := by simp only [alS, h, decide_true]
theorem al_f {l} (h : ¬ AlP l) : alS l = false := by simp only [alS, h, decide_false]
noncomputable def fillS (f : FillD) : Bool := idS f.id && decide (1 ≤ f.cls ∧ f.cls ≤ 8) && decide (0 ≤ f.day ∧ f.day ≤ 100000) && nameS f.org && decide (f.al.length ≤ 16) && alS f.al
theorem name_iff {b} : nameS b = true ↔ NameP b := by simp [nameS]
theorem bl_congr {a b : Bool} (h : a = b) : CV.v (Value.bool a) = bl b := by rw [h]
structure FillSm (f : FillD) : Prop where
  org : f.org.size ≤ 1000
  len : f.al.length ≤ 1000
  al : ∀ i : Int, 0 ≤ i → i < f.al.length → (alAt f.al i).size ≤ 1000
theorem blF {b : Bool} {p : Prop} (h : b = true) (hp : ¬ p) (e : b = true → p) : False := hp (e h)

theorem al_bad1 {l : List ByteArray} {i : Int} (h0 : 0 ≤ i) (h1 : i < l.length) (h : nameS (alAt l i) = false) : alS l = false := al_f fun e => by rw [name_t (e.n i h0 h1)] at h; cases h
theorem al_bad2 {l : List ByteArray} {i : Int} (h0 : 0 < i) (h1 : i < l.length) (h : strLt (alAt l (i - 1)) (alAt l i) = false) : alS l = false := al_f fun e => by rw [e.o i (by omega) h1] at h; cases h
theorem fill_bad {f : FillD} (h : alS f.al = false) : CV.v (Value.bool false) = bl (fillS f) := bl_congr (by simp only [fillS, h, Bool.and_false])
def AlTo (l : List ByteArray) (i : Int) : Prop := 0 ≤ i ∧ i ≤ l.length ∧ (∀ j : Int, 0 ≤ j → j < i → NameP (alAt l j)) ∧ (∀ j : Int, 1 ≤ j → j < i → strLt (alAt l (j - 1)) (alAt l j) = true)
theorem AlTo.zero (l : List ByteArray) : AlTo l 0 := ⟨by omega, by omega, by omega, by omega⟩
theorem AlTo.next {l : List ByteArray} {i : Int} (h : AlTo l i) (hi : i < l.length) (h1 : NameP (alAt l i)) (h2 : 0 < i → strLt (alAt l (i - 1)) (alAt l i) = true) : AlTo l (i + 1) := by
  obtain ⟨a, b, c, e⟩ := h
  refine ⟨by omega, by omega, fun j j1 j2 => ?_, fun j j1 j2 => ?_⟩
  · by_cases ej : j = i
    · subst ej; exact h1
    · exact c j j1 (by omega)
  · by_cases ej : j = i
    · subst ej; exact h2 (by omega)
    · exact e j j1 (by omega)
theorem AlTo.last {l : List ByteArray} (h : AlTo l l.length) : alS l = true := al_t ⟨h.2.2.1, h.2.2.2⟩

theorem f81 (d : Nat) (f : FillD) (hs : FillSm f) : ∃ H0, den E (d + 2) 81 [.agg f.cells] [] = some (bl (fillS f), H0) := by
  refine den_ex Tryz.func81 rfl Tryz.ntmps81 (by simp) _ Tryz.results81 ?_
  have s1 := hs.org
  have s2 := hs.len
  repeat' (first | refine i_seq ?_ | refine k_seq ?_ | refine i_region ?_ | refine l_o ?_ | refine l_nil ?_ | (show RD _ _; refine e_do (by simp (disch := omega) only [go_sem, Nat.reduceLT, Nat.reduceLeDiff, Nat.reduceEqDiff, Nat.reduceAdd, Nat.reduceMul, Nat.reduceSub, Nat.reduceDiv, Nat.reduceMod, Nat.reducePow, Int.reduceEq, Int.reduceBEq, Int.reduceBNe, Nat.reduceBEq, Nat.reduceBNe, Int.reduceLT, Int.reduceLE, Int.reduceToNat, Int.reduceAdd, Int.reduceSub, Int.reduceMul, Int.reduceNeg, Bool.and_self, ↓reduceIte, reduceCtorEq]; exact IsX.mk) ?_) | refine s_f ?_ | refine f_s ?_ | refine f_n ?_ | refine l_g rfl rfl ?_ | refine x2_o rfl ?_ | refine x2_n rfl ?_ | refine x2_u ?_ | refine i_cnd rfl ?_ | refine q2_true ?_ | refine q2_false ?_ | refine i_skip ?_ | refine i_label ?_ | refine i_exit ?_ | refine i_ret ?_ | refine k_seqr ?_ | refine k_seqe ?_ | refine i_block ?_ | refine k_blk ?_ | refine k_blkr ?_ | refine k_blke ?_ | refine k_blkn rfl ?_ | refine k_loope ?_ | refine k_loopr ?_ | refine s_t (by simp (disch := omega) only [go_sem, Nat.reduceLeDiff]) ?_ | refine i_draw (by decide +kernel) ?_ | refine r_rt ?_ | refine r_nm ?_ | refine k_d (by simp (disch := omega) only [go_sem, Nat.reduceLT, Nat.reduceEqDiff, ↓reduceIte, ne_eq, not_false_eq_true, Nat.reduceAdd, reduceCtorEq]) rfl ?_)
  refine i_loop (fun i => upd (upd (upd (upd jk 8 (i64 i)) 7 (i64 f.al.length)) 6 (sl f.nilA (f.al.map strC) f.al.length)) 1 (.op 0 0)) (fun i : Int => [.row ⟨f.cells, 30, 5, true⟩])
    (fun i => (f.al.length - i).toNat) (AlTo f.al) 0 (by simp only [rounds]; omega) (by simp (disch := omega) only [go_sem, Nat.reduceLT, Nat.reduceLeDiff, Nat.reduceEqDiff, Nat.reduceAdd, Nat.reduceMul, Nat.reduceSub, Nat.reduceDiv, Nat.reduceMod, Nat.reducePow, Int.reduceEq, Int.reduceBEq, Int.reduceBNe, Nat.reduceBEq, Nat.reduceBNe, Int.reduceLT, Int.reduceLE, Int.reduceToNat, Int.reduceAdd, Int.reduceSub, Int.reduceMul, Int.reduceNeg, Bool.and_self, ↓reduceIte, reduceCtorEq]) (by simp (disch := omega) only [go_sem, Nat.reduceLT, Nat.reduceLeDiff, Nat.reduceEqDiff, Nat.reduceAdd, Nat.reduceMul, Nat.reduceSub, Nat.reduceDiv, Nat.reduceMod, Nat.reducePow, Int.reduceEq, Int.reduceBEq, Int.reduceBNe, Nat.reduceBEq, Nat.reduceBNe, Int.reduceLT, Int.reduceLE, Int.reduceToNat, Int.reduceAdd, Int.reduceSub, Int.reduceMul, Int.reduceNeg, Bool.and_self, ↓reduceIte, reduceCtorEq]) (AlTo.zero _) ?_
  intro i hto
  have h1 := hto.1
  have h2 := hto.2.1
  by_cases hi : i < f.al.length
  · have s3 := hs.al i h1 hi
    by_cases c1 : nameS (alAt f.al i) = true
    · repeat' (first | (first | refine i_seq ?_ | refine k_seq ?_ | refine i_region ?_ | refine l_o ?_ | refine l_nil ?_ | (show RD _ _; refine e_do (by simp (disch := omega) only [go_sem, Nat.reduceLT, Nat.reduceLeDiff, Nat.reduceEqDiff, Nat.reduceAdd, Nat.reduceMul, Nat.reduceSub, Nat.reduceDiv, Nat.reduceMod, Nat.reducePow, Int.reduceEq, Int.reduceBEq, Int.reduceBNe, Nat.reduceBEq, Nat.reduceBNe, Int.reduceLT, Int.reduceLE, Int.reduceToNat, Int.reduceAdd, Int.reduceSub, Int.reduceMul, Int.reduceNeg, Bool.and_self, ↓reduceIte, reduceCtorEq, wr64, c1]; exact IsX.mk) ?_) | refine s_f ?_ | refine f_s ?_ | refine f_n ?_ | refine l_g rfl rfl ?_ | refine x2_o rfl ?_ | refine x2_n rfl ?_ | refine x2_u ?_ | refine i_cnd rfl ?_ | refine q2_true ?_ | refine q2_false ?_ | refine i_skip ?_ | refine i_label ?_ | refine i_exit ?_ | refine i_ret ?_ | refine k_seqr ?_ | refine k_seqe ?_ | refine i_block ?_ | refine k_blk ?_ | refine k_blkr ?_ | refine k_blke ?_ | refine k_blkn rfl ?_ | refine k_loope ?_ | refine k_loopr ?_ | refine s_t (by simp (disch := omega) only [go_sem, Nat.reduceLeDiff]) ?_ | refine i_draw (by decide +kernel) ?_ | refine r_rt ?_ | refine r_nm ?_ | refine k_d (by simp (disch := omega) only [go_sem, Nat.reduceLT, Nat.reduceEqDiff, ↓reduceIte, ne_eq, not_false_eq_true, Nat.reduceAdd, reduceCtorEq]) rfl ?_) | (first | refine x2_split (fun h => ?_) (fun h => ?_) | refine q2_split (fun h => ?_) (fun h => ?_)) <;> (try simp only [beq_iff_eq, bne_iff_ne, beq_eq_false_iff_ne, bne_eq_false_iff_eq, ne_eq, decide_eq_true_eq, decide_eq_false_iff_not, gt_iff_lt, ge_iff_le, Bool.not_eq_true', Bool.not_eq_false'] at h))
      · exact fill_bad (al_bad2 (by assumption) hi (by assumption))
      · exact k_loop (i + 1) (by omega) (by simp (disch := omega) only [go_sem, Nat.reduceLT, Nat.reduceLeDiff, Nat.reduceEqDiff, Nat.reduceAdd, Nat.reduceMul, Nat.reduceSub, Nat.reduceDiv, Nat.reduceMod, Nat.reducePow, Int.reduceEq, Int.reduceBEq, Int.reduceBNe, Nat.reduceBEq, Nat.reduceBNe, Int.reduceLT, Int.reduceLE, Int.reduceToNat, Int.reduceAdd, Int.reduceSub, Int.reduceMul, Int.reduceNeg, Bool.and_self, ↓reduceIte, reduceCtorEq, wr64]) rfl (hto.next hi (name_iff.1 c1) fun _ => by assumption)
      · exact k_loop (i + 1) (by omega) (by simp (disch := omega) only [go_sem, Nat.reduceLT, Nat.reduceLeDiff, Nat.reduceEqDiff, Nat.reduceAdd, Nat.reduceMul, Nat.reduceSub, Nat.reduceDiv, Nat.reduceMod, Nat.reducePow, Int.reduceEq, Int.reduceBEq, Int.reduceBNe, Nat.reduceBEq, Nat.reduceBNe, Int.reduceLT, Int.reduceLE, Int.reduceToNat, Int.reduceAdd, Int.reduceSub, Int.reduceMul, Int.reduceNeg, Bool.and_self, ↓reduceIte, reduceCtorEq, wr64]) rfl (hto.next hi (name_iff.1 c1) fun _ => by omega)
    · have c1' := Bool.eq_false_iff.2 c1
      repeat' (first | refine i_seq ?_ | refine k_seq ?_ | refine i_region ?_ | refine l_o ?_ | refine l_nil ?_ | (show RD _ _; refine e_do (by simp (disch := omega) only [go_sem, Nat.reduceLT, Nat.reduceLeDiff, Nat.reduceEqDiff, Nat.reduceAdd, Nat.reduceMul, Nat.reduceSub, Nat.reduceDiv, Nat.reduceMod, Nat.reducePow, Int.reduceEq, Int.reduceBEq, Int.reduceBNe, Nat.reduceBEq, Nat.reduceBNe, Int.reduceLT, Int.reduceLE, Int.reduceToNat, Int.reduceAdd, Int.reduceSub, Int.reduceMul, Int.reduceNeg, Bool.and_self, ↓reduceIte, reduceCtorEq, wr64, c1']; exact IsX.mk) ?_) | refine s_f ?_ | refine f_s ?_ | refine f_n ?_ | refine l_g rfl rfl ?_ | refine x2_o rfl ?_ | refine x2_n rfl ?_ | refine x2_u ?_ | refine i_cnd rfl ?_ | refine q2_true ?_ | refine q2_false ?_ | refine i_skip ?_ | refine i_label ?_ | refine i_exit ?_ | refine i_ret ?_ | refine k_seqr ?_ | refine k_seqe ?_ | refine i_block ?_ | refine k_blk ?_ | refine k_blkr ?_ | refine k_blke ?_ | refine k_blkn rfl ?_ | refine k_loope ?_ | refine k_loopr ?_ | refine s_t (by simp (disch := omega) only [go_sem, Nat.reduceLeDiff]) ?_ | refine i_draw (by decide +kernel) ?_ | refine r_rt ?_ | refine r_nm ?_ | refine k_d (by simp (disch := omega) only [go_sem, Nat.reduceLT, Nat.reduceEqDiff, ↓reduceIte, ne_eq, not_false_eq_true, Nat.reduceAdd, reduceCtorEq]) rfl ?_)
      exact fill_bad (al_bad1 h1 hi c1')
  · have : i = f.al.length := by omega
    subst this
    have ha := hto.last
    repeat' (first | (first | refine i_seq ?_ | refine k_seq ?_ | refine i_region ?_ | refine l_o ?_ | refine l_nil ?_ | (show RD _ _; refine e_do (by simp (disch := omega) only [go_sem, Nat.reduceLT, Nat.reduceLeDiff, Nat.reduceEqDiff, Nat.reduceAdd, Nat.reduceMul, Nat.reduceSub, Nat.reduceDiv, Nat.reduceMod, Nat.reducePow, Int.reduceEq, Int.reduceBEq, Int.reduceBNe, Nat.reduceBEq, Nat.reduceBNe, Int.reduceLT, Int.reduceLE, Int.reduceToNat, Int.reduceAdd, Int.reduceSub, Int.reduceMul, Int.reduceNeg, Bool.and_self, ↓reduceIte, reduceCtorEq, wr64]; exact IsX.mk) ?_) | refine s_f ?_ | refine f_s ?_ | refine f_n ?_ | refine l_g rfl rfl ?_ | refine x2_o rfl ?_ | refine x2_n rfl ?_ | refine x2_u ?_ | refine i_cnd rfl ?_ | refine q2_true ?_ | refine q2_false ?_ | refine i_skip ?_ | refine i_label ?_ | refine i_exit ?_ | refine i_ret ?_ | refine k_seqr ?_ | refine k_seqe ?_ | refine i_block ?_ | refine k_blk ?_ | refine k_blkr ?_ | refine k_blke ?_ | refine k_blkn rfl ?_ | refine k_loope ?_ | refine k_loopr ?_ | refine s_t (by simp (disch := omega) only [go_sem, Nat.reduceLeDiff]) ?_ | refine i_draw (by decide +kernel) ?_ | refine r_rt ?_ | refine r_nm ?_ | refine k_d (by simp (disch := omega) only [go_sem, Nat.reduceLT, Nat.reduceEqDiff, ↓reduceIte, ne_eq, not_false_eq_true, Nat.reduceAdd, reduceCtorEq]) rfl ?_) | (first | refine x2_split (fun h => ?_) (fun h => ?_) | refine q2_split (fun h => ?_) (fun h => ?_)) <;> (try simp only [beq_iff_eq, bne_iff_ne, beq_eq_false_iff_ne, bne_eq_false_iff_eq, ne_eq, decide_eq_true_eq, decide_eq_false_iff_not, gt_iff_lt, ge_iff_le, Bool.not_eq_true', Bool.not_eq_false'] at h))
    all_goals refine bl_congr ?_
    all_goals simp_all [fillS]
    all_goals omega
@[go_sem] theorem c81 (d : Nat) (f : FillD) (H : Hp) (hs : FillSm f) : callV E (den E (d + 2)) 81 [.agg f.cells] H = some (bl (fillS f), H) := callV_plain rfl rfl rfl (by simp (disch := omega) only [go_sem, Nat.reduceLT, Nat.reduceLeDiff, Nat.reduceEqDiff, Nat.reduceAdd, Nat.reduceMul, Nat.reduceSub, Nat.reduceDiv, Nat.reduceMod, Nat.reducePow, Int.reduceEq, Int.reduceBEq, Int.reduceBNe, Nat.reduceBEq, Nat.reduceBNe, Int.reduceLT, Int.reduceLE, Int.reduceToNat, Int.reduceAdd, Int.reduceSub, Int.reduceMul, Int.reduceNeg, Bool.and_self, ↓reduceIte, reduceCtorEq]) (f81 d f hs) rfl

theorem bless_total : ∀ (x y : List UInt8), (Op.bytesLess x y || x == y) = !Op.bytesLess y x
  | [], [] => rfl
  | [], b :: y => rfl
  | a :: x, [] => rfl
  | a :: x, b :: y => by
    have ih := bless_total x y
    simp only [Op.bytesLess]
    by_cases h1 : a < b
    · have h2 : ¬ b < a := by simp only [UInt8.lt_iff_toNat_lt] at *; omega
      have h3 : ¬ b = a := by rintro rfl; exact h2 h1
      simp [h1, h2, h3]
    · by_cases h2 : a = b
      · subst h2
        simpa using ih
      · have h3 : b < a := by
          simp only [UInt8.lt_iff_toNat_lt] at *
          have : a.toNat ≠ b.toNat := fun e => h2 (UInt8.toNat_inj.1 e)
          omega
        simp [h1, h2, h3]
theorem str_le (a b : ByteArray) : (strLt a b || strEq a b) = !strLt b a := bless_total _ _

theorem f93 (d : Nat) (f : FillD) (hs : FillSm f) : ∃ H0, den E (d + 2) 93 [.agg f.cells] [] = some (bl (fillS f), H0) := by
  refine den_ex Tryz.func93 rfl Tryz.ntmps93 (by simp) _ Tryz.results93 ?_
  have s1 := hs.org
  have s2 := hs.len
  repeat' (first | (first | refine i_seq ?_ | refine k_seq ?_ | refine i_region ?_ | refine l_o ?_ | refine l_nil ?_ | (show RD _ _; refine e_do (by simp (disch := omega) only [go_sem, Nat.reduceLT, Nat.reduceLeDiff, Nat.reduceEqDiff, Nat.reduceAdd, Nat.reduceMul, Nat.reduceSub, Nat.reduceDiv, Nat.reduceMod, Nat.reducePow, Int.reduceEq, Int.reduceBEq, Int.reduceBNe, Nat.reduceBEq, Nat.reduceBNe, Int.reduceLT, Int.reduceLE, Int.reduceToNat, Int.reduceAdd, Int.reduceSub, Int.reduceMul, Int.reduceNeg, Bool.and_self, ↓reduceIte, reduceCtorEq]; exact IsX.mk) ?_) | refine s_f ?_ | refine f_s ?_ | refine f_n ?_ | refine l_g rfl rfl ?_ | refine x2_o rfl ?_ | refine x2_n rfl ?_ | refine x2_u ?_ | refine i_cnd rfl ?_ | refine q2_true ?_ | refine q2_false ?_ | refine i_skip ?_ | refine i_label ?_ | refine i_exit ?_ | refine i_ret ?_ | refine k_seqr ?_ | refine k_seqe ?_ | refine i_block ?_ | refine k_blk ?_ | refine k_blkr ?_ | refine k_blke ?_ | refine k_blkn rfl ?_ | refine k_loope ?_ | refine k_loopr ?_ | refine s_t (by simp (disch := omega) only [go_sem, Nat.reduceLeDiff]) ?_ | refine i_draw (by decide +kernel) ?_ | refine r_rt ?_ | refine r_nm ?_ | refine k_d (by simp (disch := omega) only [go_sem, Nat.reduceLT, Nat.reduceEqDiff, ↓reduceIte, ne_eq, not_false_eq_true, Nat.reduceAdd, reduceCtorEq]) rfl ?_) | (first | refine x2_split (fun h => ?_) (fun h => ?_) | refine q2_split (fun h => ?_) (fun h => ?_)) <;> (try simp only [beq_iff_eq, bne_iff_ne, beq_eq_false_iff_ne, bne_eq_false_iff_eq, ne_eq, decide_eq_true_eq, decide_eq_false_iff_not, gt_iff_lt, ge_iff_le, Bool.not_eq_true', Bool.not_eq_false'] at h))
  all_goals try (refine bl_congr ?_; simp_all [fillS]; done)
  all_goals try (refine bl_congr ?_; simp_all [fillS]; omega)
  refine i_loop (fun i => upd (upd jk 3 (i64 i)) 1 (.op 0 0)) (fun i : Int => [.row ⟨f.cells, 30, 5, true⟩])
    (fun i => (f.al.length - i).toNat) (AlTo f.al) 0 (by simp only [rounds]; omega) (by simp (disch := omega) only [go_sem, Nat.reduceLT, Nat.reduceLeDiff, Nat.reduceEqDiff, Nat.reduceAdd, Nat.reduceMul, Nat.reduceSub, Nat.reduceDiv, Nat.reduceMod, Nat.reducePow, Int.reduceEq, Int.reduceBEq, Int.reduceBNe, Nat.reduceBEq, Nat.reduceBNe, Int.reduceLT, Int.reduceLE, Int.reduceToNat, Int.reduceAdd, Int.reduceSub, Int.reduceMul, Int.reduceNeg, Bool.and_self, ↓reduceIte, reduceCtorEq]) (by simp (disch := omega) only [go_sem, Nat.reduceLT, Nat.reduceLeDiff, Nat.reduceEqDiff, Nat.reduceAdd, Nat.reduceMul, Nat.reduceSub, Nat.reduceDiv, Nat.reduceMod, Nat.reducePow, Int.reduceEq, Int.reduceBEq, Int.reduceBNe, Nat.reduceBEq, Nat.reduceBNe, Int.reduceLT, Int.reduceLE, Int.reduceToNat, Int.reduceAdd, Int.reduceSub, Int.reduceMul, Int.reduceNeg, Bool.and_self, ↓reduceIte, reduceCtorEq]) (AlTo.zero _) ?_
  intro i hto
  have h1 := hto.1
  have h2 := hto.2.1
  by_cases hi : i < f.al.length
  · have s3 := hs.al i h1 hi
    by_cases c1 : nameS (alAt f.al i) = true
    · repeat' (first | (first | refine i_seq ?_ | refine k_seq ?_ | refine i_region ?_ | refine l_o ?_ | refine l_nil ?_ | (show RD _ _; refine e_do (by simp (disch := omega) only [go_sem, Nat.reduceLT, Nat.reduceLeDiff, Nat.reduceEqDiff, Nat.reduceAdd, Nat.reduceMul, Nat.reduceSub, Nat.reduceDiv, Nat.reduceMod, Nat.reducePow, Int.reduceEq, Int.reduceBEq, Int.reduceBNe, Nat.reduceBEq, Nat.reduceBNe, Int.reduceLT, Int.reduceLE, Int.reduceToNat, Int.reduceAdd, Int.reduceSub, Int.reduceMul, Int.reduceNeg, Bool.and_self, ↓reduceIte, reduceCtorEq, wr64, c1, str_le]; exact IsX.mk) ?_) | refine s_f ?_ | refine f_s ?_ | refine f_n ?_ | refine l_g rfl rfl ?_ | refine x2_o rfl ?_ | refine x2_n rfl ?_ | refine x2_u ?_ | refine i_cnd rfl ?_ | refine q2_true ?_ | refine q2_false ?_ | refine i_skip ?_ | refine i_label ?_ | refine i_exit ?_ | refine i_ret ?_ | refine k_seqr ?_ | refine k_seqe ?_ | refine i_block ?_ | refine k_blk ?_ | refine k_blkr ?_ | refine k_blke ?_ | refine k_blkn rfl ?_ | refine k_loope ?_ | refine k_loopr ?_ | refine s_t (by simp (disch := omega) only [go_sem, Nat.reduceLeDiff]) ?_ | refine i_draw (by decide +kernel) ?_ | refine r_rt ?_ | refine r_nm ?_ | refine k_d (by simp (disch := omega) only [go_sem, Nat.reduceLT, Nat.reduceEqDiff, ↓reduceIte, ne_eq, not_false_eq_true, Nat.reduceAdd, reduceCtorEq]) rfl ?_) | (first | refine x2_split (fun h => ?_) (fun h => ?_) | refine q2_split (fun h => ?_) (fun h => ?_)) <;> (try simp only [beq_iff_eq, bne_iff_ne, beq_eq_false_iff_ne, bne_eq_false_iff_eq, ne_eq, decide_eq_true_eq, decide_eq_false_iff_not, gt_iff_lt, ge_iff_le, Bool.not_eq_true', Bool.not_eq_false'] at h))
      · exact fill_bad (al_bad2 (by assumption) hi (by assumption))
      · exact k_loop (i + 1) (by omega) (by simp (disch := omega) only [go_sem, Nat.reduceLT, Nat.reduceLeDiff, Nat.reduceEqDiff, Nat.reduceAdd, Nat.reduceMul, Nat.reduceSub, Nat.reduceDiv, Nat.reduceMod, Nat.reducePow, Int.reduceEq, Int.reduceBEq, Int.reduceBNe, Nat.reduceBEq, Nat.reduceBNe, Int.reduceLT, Int.reduceLE, Int.reduceToNat, Int.reduceAdd, Int.reduceSub, Int.reduceMul, Int.reduceNeg, Bool.and_self, ↓reduceIte, reduceCtorEq, wr64]) rfl (hto.next hi (name_iff.1 c1) fun _ => by assumption)
      · exact k_loop (i + 1) (by omega) (by simp (disch := omega) only [go_sem, Nat.reduceLT, Nat.reduceLeDiff, Nat.reduceEqDiff, Nat.reduceAdd, Nat.reduceMul, Nat.reduceSub, Nat.reduceDiv, Nat.reduceMod, Nat.reducePow, Int.reduceEq, Int.reduceBEq, Int.reduceBNe, Nat.reduceBEq, Nat.reduceBNe, Int.reduceLT, Int.reduceLE, Int.reduceToNat, Int.reduceAdd, Int.reduceSub, Int.reduceMul, Int.reduceNeg, Bool.and_self, ↓reduceIte, reduceCtorEq, wr64]) rfl (hto.next hi (name_iff.1 c1) fun _ => by omega)
    · have c1' := Bool.eq_false_iff.2 c1
      repeat' (first | refine i_seq ?_ | refine k_seq ?_ | refine i_region ?_ | refine l_o ?_ | refine l_nil ?_ | (show RD _ _; refine e_do (by simp (disch := omega) only [go_sem, Nat.reduceLT, Nat.reduceLeDiff, Nat.reduceEqDiff, Nat.reduceAdd, Nat.reduceMul, Nat.reduceSub, Nat.reduceDiv, Nat.reduceMod, Nat.reducePow, Int.reduceEq, Int.reduceBEq, Int.reduceBNe, Nat.reduceBEq, Nat.reduceBNe, Int.reduceLT, Int.reduceLE, Int.reduceToNat, Int.reduceAdd, Int.reduceSub, Int.reduceMul, Int.reduceNeg, Bool.and_self, ↓reduceIte, reduceCtorEq, wr64, c1']; exact IsX.mk) ?_) | refine s_f ?_ | refine f_s ?_ | refine f_n ?_ | refine l_g rfl rfl ?_ | refine x2_o rfl ?_ | refine x2_n rfl ?_ | refine x2_u ?_ | refine i_cnd rfl ?_ | refine q2_true ?_ | refine q2_false ?_ | refine i_skip ?_ | refine i_label ?_ | refine i_exit ?_ | refine i_ret ?_ | refine k_seqr ?_ | refine k_seqe ?_ | refine i_block ?_ | refine k_blk ?_ | refine k_blkr ?_ | refine k_blke ?_ | refine k_blkn rfl ?_ | refine k_loope ?_ | refine k_loopr ?_ | refine s_t (by simp (disch := omega) only [go_sem, Nat.reduceLeDiff]) ?_ | refine i_draw (by decide +kernel) ?_ | refine r_rt ?_ | refine r_nm ?_ | refine k_d (by simp (disch := omega) only [go_sem, Nat.reduceLT, Nat.reduceEqDiff, ↓reduceIte, ne_eq, not_false_eq_true, Nat.reduceAdd, reduceCtorEq]) rfl ?_)
      exact fill_bad (al_bad1 h1 hi c1')
  · have : i = f.al.length := by omega
    subst this
    have ha := hto.last
    repeat' (first | refine i_seq ?_ | refine k_seq ?_ | refine i_region ?_ | refine l_o ?_ | refine l_nil ?_ | (show RD _ _; refine e_do (by simp (disch := omega) only [go_sem, Nat.reduceLT, Nat.reduceLeDiff, Nat.reduceEqDiff, Nat.reduceAdd, Nat.reduceMul, Nat.reduceSub, Nat.reduceDiv, Nat.reduceMod, Nat.reducePow, Int.reduceEq, Int.reduceBEq, Int.reduceBNe, Nat.reduceBEq, Nat.reduceBNe, Int.reduceLT, Int.reduceLE, Int.reduceToNat, Int.reduceAdd, Int.reduceSub, Int.reduceMul, Int.reduceNeg, Bool.and_self, ↓reduceIte, reduceCtorEq, wr64]; exact IsX.mk) ?_) | refine s_f ?_ | refine f_s ?_ | refine f_n ?_ | refine l_g rfl rfl ?_ | refine x2_o rfl ?_ | refine x2_n rfl ?_ | refine x2_u ?_ | refine i_cnd rfl ?_ | refine q2_true ?_ | refine q2_false ?_ | refine i_skip ?_ | refine i_label ?_ | refine i_exit ?_ | refine i_ret ?_ | refine k_seqr ?_ | refine k_seqe ?_ | refine i_block ?_ | refine k_blk ?_ | refine k_blkr ?_ | refine k_blke ?_ | refine k_blkn rfl ?_ | refine k_loope ?_ | refine k_loopr ?_ | refine s_t (by simp (disch := omega) only [go_sem, Nat.reduceLeDiff]) ?_ | refine i_draw (by decide +kernel) ?_ | refine r_rt ?_ | refine r_nm ?_ | refine k_d (by simp (disch := omega) only [go_sem, Nat.reduceLT, Nat.reduceEqDiff, ↓reduceIte, ne_eq, not_false_eq_true, Nat.reduceAdd, reduceCtorEq]) rfl ?_)
    refine bl_congr ?_
    simp_all [fillS]
    omega
@[go_sem] theorem c93 (d : Nat) (f : FillD) (H : Hp) (hs : FillSm f) : callV E (den E (d + 2)) 93 [.agg f.cells] H = some (bl (fillS f), H) := callV_plain rfl rfl rfl (by simp (disch := omega) only [go_sem, Nat.reduceLT, Nat.reduceLeDiff, Nat.reduceEqDiff, Nat.reduceAdd, Nat.reduceMul, Nat.reduceSub, Nat.reduceDiv, Nat.reduceMod, Nat.reducePow, Int.reduceEq, Int.reduceBEq, Int.reduceBNe, Nat.reduceBEq, Nat.reduceBNe, Int.reduceLT, Int.reduceLE, Int.reduceToNat, Int.reduceAdd, Int.reduceSub, Int.reduceMul, Int.reduceNeg, Bool.and_self, ↓reduceIte, reduceCtorEq]) (f93 d f hs) rfl
end Go.Age
