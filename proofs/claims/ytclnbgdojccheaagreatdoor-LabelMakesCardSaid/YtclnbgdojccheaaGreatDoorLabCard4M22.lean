/- Part of the proof of LabelMakesCardSaid. -/
import Derived.Test.YtclnbgdojccheaaGreatDoorLabCard4M19
import Derived.Test.YtclnbgdojccheaaGreatDoorLabCard4M20
import Derived.Test.YtclnbgdojccheaaGreatDoorLabCard4M09
import Derived.Test.YtclnbgdojccheaaGreatDoorLabCard4M16
section
set_option linter.all false
set_option linter.unusedVariables false
set_option linter.unusedSimpArgs false
set_option maxRecDepth 100000
set_option maxHeartbeats 8000000
attribute [local irreducible] Go.Den.W Go.Den.WL Go.Den.WX Go.Den.WQ Go.Den.QR Go.Den.WG Go.Den.WO Go.Den.WK Go.Den.grows Go.Den.stepOp Go.Den.callV Go.Den.den
namespace Go.Age
open Go.Den Go.Proofs
structure LabD where
  y : Int
  org : ByteArray
  str : Int
  nilA : Bool
  al : List ByteArray
abbrev LabD.cells (x : LabD) : List CV := [i64 x.y, strC x.org, i64 x.str, sl x.nilA (x.al.map strC) x.al.length]
structure LabSm (x : LabD) : Prop where
  org : x.org.size ≤ 1000
  len : x.al.length ≤ 100000
  al : ∀ i : Int, 0 ≤ i → i < x.al.length → (alAt x.al i).size ≤ 1000
noncomputable def formS (x : LabD) : Bool := decide (0 ≤ x.y ∧ x.y ≤ 300) && (strEq x.org ⟨#[]⟩ || nameS x.org) && decide (0 ≤ x.str ∧ x.str ≤ 10000) && decide (x.al.length ≤ 1024) && alS x.al
theorem form_bad {x : LabD} (h : alS x.al = false) : CV.v (Value.bool false) = bl (formS x) := bl_congr (by simp only [formS, h, Bool.and_false])
theorem l108 (d : Nat) (b : ByteArray) (hb : b.size ≤ 1000) : den E (d + 1) 108 [strC b] [] = some (bl (nameS b), []) := by
  refine den_eq Tryz.func108 rfl Tryz.ntmps108 (by simp) _ Tryz.results108 ?_
  repeat' (first | refine i_seq ?_ | refine k_seq ?_ | refine i_region ?_ | refine l_o ?_ | refine l_nil ?_ | (show RD _ _; refine e_do (by simp (disch := omega) only [go_sem, seval]; exact IsX.mk) ?_) | refine s_f ?_ | refine f_s ?_ | refine f_n ?_ | refine st2 ?_)
  refine i_loop (fun i => upd (upd (upd jk 6 (i64 i)) 5 (i64 b.size)) 0 (strC b)) (fun i : Int => [])
    (fun i => (b.size - i).toNat) (fun i => 0 ≤ i ∧ i ≤ b.size ∧ ∀ j : Int, 0 ≤ j → j < i → OkB b j) 0 (by simp only [rounds]; omega) (by simp (disch := omega) only [go_sem, seval]) rfl ⟨by omega, by omega, by omega⟩ ?_
  rintro i ⟨h1, h2, h3⟩
  by_cases hi : i < b.size
  · by_cases c1 : byteS b i < 32
    · repeat' (first | refine i_seq ?_ | refine k_seq ?_ | refine i_region ?_ | refine l_o ?_ | refine l_nil ?_ | (show RD _ _; refine e_do (by simp (disch := omega) only [go_sem, seval, wr64]; exact IsX.mk) ?_) | refine s_f ?_ | refine f_s ?_ | refine f_n ?_ | refine st2 ?_)
      exact ⟨(congrArg (fun x => CV.v (Value.bool x)) (name_f fun h => by have := h.ok i h1 hi; unfold OkB at this; omega)).symm, rfl⟩
    · by_cases c2 : 126 < byteS b i
      · repeat' (first | refine i_seq ?_ | refine k_seq ?_ | refine i_region ?_ | refine l_o ?_ | refine l_nil ?_ | (show RD _ _; refine e_do (by simp (disch := omega) only [go_sem, seval, wr64]; exact IsX.mk) ?_) | refine s_f ?_ | refine f_s ?_ | refine f_n ?_ | refine st2 ?_)
        exact ⟨(congrArg (fun x => CV.v (Value.bool x)) (name_f fun h => by have := h.ok i h1 hi; unfold OkB at this; omega)).symm, rfl⟩
      · repeat' (first | refine i_seq ?_ | refine k_seq ?_ | refine i_region ?_ | refine l_o ?_ | refine l_nil ?_ | (show RD _ _; refine e_do (by simp (disch := omega) only [go_sem, seval, wr64]; exact IsX.mk) ?_) | refine s_f ?_ | refine f_s ?_ | refine f_n ?_ | refine st2 ?_)
        refine k_loop (i + 1) (by omega) (by simp (disch := omega) only [go_sem, seval, wr64]; try rfl) rfl ⟨by omega, by omega, fun j j1 j2 => ?_⟩
        by_cases e : j = i
        · subst e; exact ⟨by omega, by omega⟩
        · exact h3 j j1 (by omega)
  · have : i = b.size := by omega
    subst this
    by_cases l1 : 1 ≤ b.size
    · by_cases l2 : b.size ≤ 64
      · by_cases l3 : byteS b 0 = 32
        · repeat' (first | refine i_seq ?_ | refine k_seq ?_ | refine i_region ?_ | refine l_o ?_ | refine l_nil ?_ | (show RD _ _; refine e_do (by simp (disch := omega) only [go_sem, seval, wr64]; exact IsX.mk) ?_) | refine s_f ?_ | refine f_s ?_ | refine f_n ?_ | refine st2 ?_)
          exact ⟨(congrArg (fun x => CV.v (Value.bool x)) (name_f fun h => h.f l3)).symm, rfl⟩
        · by_cases l4 : byteS b (b.size - 1) = 32
          · repeat' (first | refine i_seq ?_ | refine k_seq ?_ | refine i_region ?_ | refine l_o ?_ | refine l_nil ?_ | (show RD _ _; refine e_do (by simp (disch := omega) only [go_sem, seval, wr64]; exact IsX.mk) ?_) | refine s_f ?_ | refine f_s ?_ | refine f_n ?_ | refine st2 ?_)
            exact ⟨(congrArg (fun x => CV.v (Value.bool x)) (name_f fun h => h.l l4)).symm, rfl⟩
          · repeat' (first | refine i_seq ?_ | refine k_seq ?_ | refine i_region ?_ | refine l_o ?_ | refine l_nil ?_ | (show RD _ _; refine e_do (by simp (disch := omega) only [go_sem, seval, wr64]; exact IsX.mk) ?_) | refine s_f ?_ | refine f_s ?_ | refine f_n ?_ | refine st2 ?_)
            exact ⟨(congrArg (fun x => CV.v (Value.bool x)) (name_t ⟨l1, l2, h3, l3, l4⟩)).symm, rfl⟩
      · repeat' (first | refine i_seq ?_ | refine k_seq ?_ | refine i_region ?_ | refine l_o ?_ | refine l_nil ?_ | (show RD _ _; refine e_do (by simp (disch := omega) only [go_sem, seval, wr64]; exact IsX.mk) ?_) | refine s_f ?_ | refine f_s ?_ | refine f_n ?_ | refine st2 ?_)
        exact ⟨(congrArg (fun x => CV.v (Value.bool x)) (name_f fun h => l2 h.l2)).symm, rfl⟩
    · repeat' (first | refine i_seq ?_ | refine k_seq ?_ | refine i_region ?_ | refine l_o ?_ | refine l_nil ?_ | (show RD _ _; refine e_do (by simp (disch := omega) only [go_sem, seval, wr64]; exact IsX.mk) ?_) | refine s_f ?_ | refine f_s ?_ | refine f_n ?_ | refine st2 ?_)
      exact ⟨(congrArg (fun x => CV.v (Value.bool x)) (name_f fun h => l1 h.l1)).symm, rfl⟩
@[go_sem] theorem cl108 (d : Nat) (b : ByteArray) (H : Hp) (hb : b.size ≤ 1000) : callV E (den E (d + 1)) 108 [strC b] H = some (bl (nameS b), H) := callV_plain rfl rfl rfl rfl ⟨_, l108 d b hb⟩ rfl
theorem l66 (d : Nat) (x : LabD) (hs : LabSm x) : ∃ H0, den E (d + 2) 66 [.agg x.cells] [] = some (bl (formS x), H0) := by
  refine den_ex Tryz.func66 rfl Tryz.ntmps66 (by simp) _ Tryz.results66 ?_
  have s1 := hs.org
  have s2 := hs.len
  repeat' (first | refine i_seq ?_ | refine k_seq ?_ | refine i_region ?_ | refine l_o ?_ | refine l_nil ?_ | (show RD _ _; refine e_do (by simp (disch := omega) only [go_sem, seval]; exact IsX.mk) ?_) | refine s_f ?_ | refine f_s ?_ | refine f_n ?_ | refine st2 ?_)
  refine i_loop (fun i => upd (upd (upd (upd jk 8 (i64 i)) 7 (i64 x.al.length)) 6 (sl x.nilA (x.al.map strC) x.al.length)) 1 (.op 0 0)) (fun i : Int => [.row ⟨x.cells, 40, 4, true⟩])
    (fun i => (x.al.length - i).toNat) (AlTo x.al) 0 (by simp only [rounds]; omega) (by simp (disch := omega) only [go_sem, seval]) (by simp (disch := omega) only [go_sem, seval]) (AlTo.zero _) ?_
  intro i hto
  have h1 := hto.1
  have h2 := hto.2.1
  by_cases hi : i < x.al.length
  · have s3 := hs.al i h1 hi
    by_cases c1 : nameS (alAt x.al i) = true
    · repeat' (first | (first | refine i_seq ?_ | refine k_seq ?_ | refine i_region ?_ | refine l_o ?_ | refine l_nil ?_ | (show RD _ _; refine e_do (by simp (disch := omega) only [go_sem, seval, wr64, c1]; exact IsX.mk) ?_) | refine s_f ?_ | refine f_s ?_ | refine f_n ?_ | refine st2 ?_) | (first | refine x2_split (fun h => ?_) (fun h => ?_) | refine q2_split (fun h => ?_) (fun h => ?_)) <;> (try simp only [beq_iff_eq, bne_iff_ne, beq_eq_false_iff_ne, bne_eq_false_iff_eq, ne_eq, decide_eq_true_eq, decide_eq_false_iff_not, gt_iff_lt, ge_iff_le, Bool.not_eq_true', Bool.not_eq_false'] at h))
      · exact form_bad (al_bad2 (by assumption) hi (by assumption))
      · exact k_loop (i + 1) (by omega) (by simp (disch := omega) only [go_sem, seval, wr64]) rfl (hto.next hi (name_iff.1 c1) fun _ => by assumption)
      · exact k_loop (i + 1) (by omega) (by simp (disch := omega) only [go_sem, seval, wr64]) rfl (hto.next hi (name_iff.1 c1) fun _ => by omega)
    · have c1' := Bool.eq_false_iff.2 c1
      repeat' (first | refine i_seq ?_ | refine k_seq ?_ | refine i_region ?_ | refine l_o ?_ | refine l_nil ?_ | (show RD _ _; refine e_do (by simp (disch := omega) only [go_sem, seval, wr64, c1']; exact IsX.mk) ?_) | refine s_f ?_ | refine f_s ?_ | refine f_n ?_ | refine st2 ?_)
      exact form_bad (al_bad1 h1 hi c1')
  · have : i = x.al.length := by omega
    subst this
    have ha := hto.last
    repeat' (first | (first | refine i_seq ?_ | refine k_seq ?_ | refine i_region ?_ | refine l_o ?_ | refine l_nil ?_ | (show RD _ _; refine e_do (by simp (disch := omega) only [go_sem, seval, wr64]; exact IsX.mk) ?_) | refine s_f ?_ | refine f_s ?_ | refine f_n ?_ | refine st2 ?_) | (first | refine x2_split (fun h => ?_) (fun h => ?_) | refine q2_split (fun h => ?_) (fun h => ?_)) <;> (try simp only [beq_iff_eq, bne_iff_ne, beq_eq_false_iff_ne, bne_eq_false_iff_eq, ne_eq, decide_eq_true_eq, decide_eq_false_iff_not, gt_iff_lt, ge_iff_le, Bool.not_eq_true', Bool.not_eq_false'] at h))
    all_goals refine bl_congr ?_
    all_goals simp_all [formS]
    all_goals omega
@[go_sem] theorem cl66 (d : Nat) (x : LabD) (H : Hp) (hs : LabSm x) : callV E (den E (d + 2)) 66 [.agg x.cells] H = some (bl (formS x), H) := callV_plain rfl rfl rfl (by simp (disch := omega) only [go_sem, seval]) (l66 d x hs) rfl
theorem l68 (d : Nat) (x : LabD) (hs : LabSm x) : ∃ H0, den E (d + 2) 68 [.agg x.cells] [] = some (bl (formS x), H0) := by
  refine den_ex Tryz.func68 rfl Tryz.ntmps68 (by simp) _ Tryz.results68 ?_
  have s1 := hs.org
  have s2 := hs.len
  repeat' (first | (first | refine i_seq ?_ | refine k_seq ?_ | refine i_region ?_ | refine l_o ?_ | refine l_nil ?_ | (show RD _ _; refine e_do (by simp (disch := omega) only [go_sem, seval]; exact IsX.mk) ?_) | refine s_f ?_ | refine f_s ?_ | refine f_n ?_ | refine st2 ?_) | (first | refine x2_split (fun h => ?_) (fun h => ?_) | refine q2_split (fun h => ?_) (fun h => ?_)) <;> (try simp only [beq_iff_eq, bne_iff_ne, beq_eq_false_iff_ne, bne_eq_false_iff_eq, ne_eq, decide_eq_true_eq, decide_eq_false_iff_not, gt_iff_lt, ge_iff_le, Bool.not_eq_true', Bool.not_eq_false'] at h))
  all_goals try (refine bl_congr ?_; simp_all [formS]; done)
  all_goals try (refine bl_congr ?_; simp_all [formS]; omega)
  all_goals
    refine i_loop (fun i => upd (upd jk 3 (i64 i)) 1 (.op 0 0)) (fun i : Int => [.row ⟨x.cells, 40, 4, true⟩])
      (fun i => (x.al.length - i).toNat) (AlTo x.al) 0 (by simp only [rounds]; omega) (by simp (disch := omega) only [go_sem, seval]) (by simp (disch := omega) only [go_sem, seval]) (AlTo.zero _) ?_
    intro i hto
    have h1 := hto.1
    have h2 := hto.2.1
    by_cases hi : i < x.al.length
    · have s3 := hs.al i h1 hi
      by_cases c1 : nameS (alAt x.al i) = true
      · repeat' (first | (first | refine i_seq ?_ | refine k_seq ?_ | refine i_region ?_ | refine l_o ?_ | refine l_nil ?_ | (show RD _ _; refine e_do (by simp (disch := omega) only [go_sem, seval, wr64, c1, str_le]; exact IsX.mk) ?_) | refine s_f ?_ | refine f_s ?_ | refine f_n ?_ | refine st2 ?_) | (first | refine x2_split (fun h => ?_) (fun h => ?_) | refine q2_split (fun h => ?_) (fun h => ?_)) <;> (try simp only [beq_iff_eq, bne_iff_ne, beq_eq_false_iff_ne, bne_eq_false_iff_eq, ne_eq, decide_eq_true_eq, decide_eq_false_iff_not, gt_iff_lt, ge_iff_le, Bool.not_eq_true', Bool.not_eq_false'] at h))
        · exact form_bad (al_bad2 (by assumption) hi (by assumption))
        · exact k_loop (i + 1) (by omega) (by simp (disch := omega) only [go_sem, seval, wr64]) rfl (hto.next hi (name_iff.1 c1) fun _ => by assumption)
        · exact k_loop (i + 1) (by omega) (by simp (disch := omega) only [go_sem, seval, wr64]) rfl (hto.next hi (name_iff.1 c1) fun _ => by omega)
      · have c1' := Bool.eq_false_iff.2 c1
        repeat' (first | refine i_seq ?_ | refine k_seq ?_ | refine i_region ?_ | refine l_o ?_ | refine l_nil ?_ | (show RD _ _; refine e_do (by simp (disch := omega) only [go_sem, seval, wr64, c1']; exact IsX.mk) ?_) | refine s_f ?_ | refine f_s ?_ | refine f_n ?_ | refine st2 ?_)
        exact form_bad (al_bad1 h1 hi c1')
    · have : i = x.al.length := by omega
      subst this
      have ha := hto.last
      repeat' (first | refine i_seq ?_ | refine k_seq ?_ | refine i_region ?_ | refine l_o ?_ | refine l_nil ?_ | (show RD _ _; refine e_do (by simp (disch := omega) only [go_sem, seval, wr64]; exact IsX.mk) ?_) | refine s_f ?_ | refine f_s ?_ | refine f_n ?_ | refine st2 ?_)
      refine bl_congr ?_
      simp_all [formS]
      try omega
theorem cl68 (d : Nat) (x : LabD) (H : Hp) (hs : LabSm x) : callV E (den E (d + 2)) 68 [.agg x.cells] H = some (bl (formS x), H) := callV_plain rfl rfl rfl (by simp (disch := omega) only [go_sem, seval]) (l68 d x hs) rfl
theorem l19 (d : Nat) (x : LabD) : ∃ v H0, den E (d + 1) 19 [.agg x.cells] [] = some (v, H0) ∧ ∃ r, v = bl r ∧ (r = true → LabSm x ∧ x.al.length ≤ 1029) := by
  refine den_of_W Tryz.func19 rfl Tryz.ntmps19 (by simp) _ Tryz.results19 ?_
  by_cases a1 : 100 < x.org.size
  · repeat' (first | refine i_seq ?_ | refine k_seq ?_ | refine i_region ?_ | refine l_o ?_ | refine l_nil ?_ | (show RD _ _; refine e_do (by simp (disch := omega) only [go_sem, seval]; exact IsX.mk) ?_) | refine s_f ?_ | refine f_s ?_ | refine f_n ?_ | refine st2 ?_)
    exact ⟨_, rfl, fun h => by cases h⟩
  · by_cases a2 : (20 < x.al.length ∧ x.al.length ≤ 1024) ∨ 1029 < x.al.length
    · repeat' (first | (first | refine i_seq ?_ | refine k_seq ?_ | refine i_region ?_ | refine l_o ?_ | refine l_nil ?_ | (show RD _ _; refine e_do (by simp (disch := omega) only [go_sem, seval]; exact IsX.mk) ?_) | refine s_f ?_ | refine f_s ?_ | refine f_n ?_ | refine st2 ?_) | (first | refine x2_split (fun h => ?_) (fun h => ?_) | refine q2_split (fun h => ?_) (fun h => ?_)) <;> (try simp only [beq_iff_eq, bne_iff_ne, beq_eq_false_iff_ne, bne_eq_false_iff_eq, ne_eq, decide_eq_true_eq, decide_eq_false_iff_not, gt_iff_lt, ge_iff_le, Bool.not_eq_true', Bool.not_eq_false'] at h))
      all_goals first | exact ⟨_, rfl, fun h => by cases h⟩ | (exfalso; omega)
    · repeat' (first | (first | refine i_seq ?_ | refine k_seq ?_ | refine i_region ?_ | refine l_o ?_ | refine l_nil ?_ | (show RD _ _; refine e_do (by simp (disch := omega) only [go_sem, seval]; exact IsX.mk) ?_) | refine s_f ?_ | refine f_s ?_ | refine f_n ?_ | refine st2 ?_) | (first | refine x2_split (fun h => ?_) (fun h => ?_) | refine q2_split (fun h => ?_) (fun h => ?_)) <;> (try simp only [beq_iff_eq, bne_iff_ne, beq_eq_false_iff_ne, bne_eq_false_iff_eq, ne_eq, decide_eq_true_eq, decide_eq_false_iff_not, gt_iff_lt, ge_iff_le, Bool.not_eq_true', Bool.not_eq_false'] at h))
      all_goals try (exfalso; omega)
      all_goals
        refine i_loop (fun i => upd (upd jk 3 (i64 i)) 1 (.op 0 0)) (fun i : Int => [.row ⟨x.cells, 40, 4, true⟩])
          (fun i => (x.al.length - i).toNat) (fun i => 0 ≤ i ∧ i ≤ x.al.length ∧ ∀ j : Int, 0 ≤ j → j < i → (alAt x.al j).size ≤ 100) 0 (by simp only [rounds]; omega) (by simp (disch := omega) only [go_sem, seval]) (by simp (disch := omega) only [go_sem, seval]) ⟨by omega, by omega, fun j h1 h2 => by omega⟩ ?_
        rintro i ⟨q1, q2, q3⟩
        by_cases hi : i < x.al.length
        · by_cases c : 100 < (alAt x.al i).size
          · repeat' (first | refine i_seq ?_ | refine k_seq ?_ | refine i_region ?_ | refine l_o ?_ | refine l_nil ?_ | (show RD _ _; refine e_do (by simp (disch := omega) only [go_sem, seval, wr64]; exact IsX.mk) ?_) | refine s_f ?_ | refine f_s ?_ | refine f_n ?_ | refine st2 ?_)
            exact ⟨_, rfl, fun h => by cases h⟩
          · repeat' (first | refine i_seq ?_ | refine k_seq ?_ | refine i_region ?_ | refine l_o ?_ | refine l_nil ?_ | (show RD _ _; refine e_do (by simp (disch := omega) only [go_sem, seval, wr64]; exact IsX.mk) ?_) | refine s_f ?_ | refine f_s ?_ | refine f_n ?_ | refine st2 ?_)
            refine k_loop (i + 1) (by omega) (by simp (disch := omega) only [go_sem, seval, wr64]; try rfl) rfl ⟨by omega, by omega, fun j j1 j2 => ?_⟩
            by_cases ej : j = i
            · subst ej; omega
            · exact q3 j j1 (by omega)
        · have : i = x.al.length := by omega
          subst this
          repeat' (first | refine i_seq ?_ | refine k_seq ?_ | refine i_region ?_ | refine l_o ?_ | refine l_nil ?_ | (show RD _ _; refine e_do (by simp (disch := omega) only [go_sem, seval]; exact IsX.mk) ?_) | refine s_f ?_ | refine f_s ?_ | refine f_n ?_ | refine st2 ?_)
          exact ⟨_, rfl, fun _ => ⟨⟨by omega, by omega, fun j j1 j2 => by have := q3 j j1 j2; omega⟩, by omega⟩⟩
end Go.Age
end
section
set_option linter.all false
set_option linter.unusedVariables false
set_option linter.unusedSimpArgs false
set_option maxRecDepth 100000
set_option maxHeartbeats 8000000
attribute [local irreducible] Go.Den.W Go.Den.WL Go.Den.WX Go.Den.WQ Go.Den.QR Go.Den.WG Go.Den.WO Go.Den.WK Go.Den.grows Go.Den.stepOp Go.Den.callV Go.Den.den
namespace Go.Age
open Go.Den Go.Proofs
theorem HasL.sn {H : Hp} {v : CV} {l : List ByteArray} (h : HasL H v l) (k : Nat) : snap H (k + 2) v = some (sl (isNilV v) (l.map strC) l.length) := by
  rcases h with ⟨rfl, rfl⟩ | ⟨i, rfl, hk⟩
  · rfl
  · have tk : List.take l.length (l.map strC) = l.map strC := List.take_of_length_le (by simp)
    have e : ∀ l : List ByteArray, omap (snap H (k + 1)) (l.map strC) = some (l.map strC) := fun l => by
      induction l with
      | nil => rfl
      | cons a l ih => simp only [List.map_cons, omap, ih]; rfl
    show snap H (k + 2) (.own i 0 l.length 1) = some (sl false (l.map strC) l.length)
    simp (disch := omega) only [go_sem, seval, hk, len_al, tk, e, Nat.mul_one, Nat.zero_add, Nat.le_refl, List.drop_zero, sl_ro]
theorem HasL.lf {H : Hp} {v : CV} {l : List ByteArray} (h : HasL H v l) : CV.leaf v = true ∧ CV.cells v = [v] := by
  rcases h with ⟨rfl, rfl⟩ | ⟨i, rfl, hk⟩ <;> exact ⟨rfl, rfl⟩
theorem l113 (d : Nat) (a : ByteArray) (x : LabD) {H : Hp} {b : Nat} {lv : Bool} (hb : getR H b = some ⟨x.cells, 40, 4, lv⟩) (hn : x.al.length ≤ 1000000) : den E (d + 3) 113 [strC a, .op b 0] H = some (bl (!inL a x.al), H) := by
  have k40 := fun H => cl40r d x.nilA x.al a H hn
  refine den_eq Tryz.func113 rfl Tryz.ntmps113 (by simp) _ Tryz.results113 ?_
  repeat' (first | refine i_seq ?_ | refine k_seq ?_ | refine i_region ?_ | refine l_o ?_ | refine l_nil ?_ | (show RD _ _; refine e_do (by simp (disch := omega) only [go_sem, seval, hb, k40]; exact IsX.mk) ?_) | refine s_f ?_ | refine f_s ?_ | refine f_n ?_ | refine st2 ?_)
  exact ⟨rfl, rfl⟩
open Classical in
noncomputable def misL (l m : List ByteArray) : Bool := decide (∃ a ∈ l, a ∉ m)
theorem misL_iff {l m : List ByteArray} : misL l m = true ↔ ∃ a ∈ l, a ∉ m := by simp [misL]
theorem l112 (d : Nat) (x f : LabD) (hx : x.al.length ≤ 1000000) (hf : f.al.length ≤ 1000000) : ∃ H0, den E (d + 6) 112 [.agg x.cells, .agg f.cells] [] = some (bl (misL f.al x.al), H0) := by
  obtain ⟨r, G, k79, hi⟩ := cx79 (d + 2) f.nilA f.al [.row ⟨x.cells, 40, 4, true⟩, .row ⟨f.cells, 40, 4, true⟩] 113 [.op 0 0] (fun j => !inL (alAt f.al j) x.al) hf (fun j G j0 j1 => ⟨[], by rw [List.append_nil]; exact callV_inl rfl rfl (l113 d (alAt f.al j) x (getR_old rfl G) hx)⟩)
  have k41 := cf41 k79
  have e : decide (0 ≤ r) = misL f.al x.al := by
    rw [Bool.eq_iff_iff, decide_eq_true_eq, hi.iff, misL_iff]
    constructor
    · rintro ⟨j, j0, j1, j2⟩
      refine ⟨alAt f.al j, al_mem ⟨j0, j1⟩, fun hm => ?_⟩
      rw [inL_iff.2 hm] at j2; cases j2
    · rintro ⟨a, ha, hn⟩
      obtain ⟨n, hn1, rfl⟩ := List.mem_iff_getElem.1 ha
      refine ⟨n, by omega, by omega, ?_⟩
      have : alAt f.al (n : Int) = f.al[n] := by simp [alAt, List.getD, hn1]
      rw [this, Bool.not_eq_true', Bool.eq_false_iff]
      exact fun h => hn (inL_iff.1 h)
  rw [e] at k41
  refine den_ex Tryz.func112 rfl Tryz.ntmps112 (by simp) _ Tryz.results112 ?_
  repeat' (first | refine i_seq ?_ | refine k_seq ?_ | refine i_region ?_ | refine l_o ?_ | refine l_nil ?_ | (show RD _ _; refine e_do (by simp (disch := omega) only [go_sem, seval, k41]; exact IsX.mk) ?_) | refine s_f ?_ | refine f_s ?_ | refine f_n ?_ | refine st2 ?_)
  rfl
theorem l109 (d : Nat) (x f : LabD) : ∃ H0, den E (d + 1) 109 [.agg x.cells, .agg f.cells] [] = some (bl (decide (f.y < x.y)), H0) := by
  refine den_ex Tryz.func109 rfl Tryz.ntmps109 (by simp) _ Tryz.results109 ?_
  repeat' (first | refine i_seq ?_ | refine k_seq ?_ | refine i_region ?_ | refine l_o ?_ | refine l_nil ?_ | (show RD _ _; refine e_do (by simp (disch := omega) only [go_sem, seval]; exact IsX.mk) ?_) | refine s_f ?_ | refine f_s ?_ | refine f_n ?_ | refine st2 ?_)
  rfl
theorem l110 (d : Nat) (x f : LabD) : ∃ H0, den E (d + 1) 110 [.agg x.cells, .agg f.cells] [] = some (bl (!strEq x.org ⟨#[]⟩ && !strEq x.org f.org), H0) := by
  by_cases e1 : strEq x.org ⟨#[]⟩ = true
  · refine den_ex Tryz.func110 rfl Tryz.ntmps110 (by simp) _ Tryz.results110 ?_
    repeat' (first | refine i_seq ?_ | refine k_seq ?_ | refine i_region ?_ | refine l_o ?_ | refine l_nil ?_ | (show RD _ _; refine e_do (by simp (disch := omega) only [go_sem, seval, e1]; exact IsX.mk) ?_) | refine s_f ?_ | refine f_s ?_ | refine f_n ?_ | refine st2 ?_)
    rw [e1]; rfl
  · have e1 := Bool.eq_false_iff.2 e1
    by_cases e2 : strEq x.org f.org = true
    · refine den_ex Tryz.func110 rfl Tryz.ntmps110 (by simp) _ Tryz.results110 ?_
      repeat' (first | refine i_seq ?_ | refine k_seq ?_ | refine i_region ?_ | refine l_o ?_ | refine l_nil ?_ | (show RD _ _; refine e_do (by simp (disch := omega) only [go_sem, seval, e1, e2]; exact IsX.mk) ?_) | refine s_f ?_ | refine f_s ?_ | refine f_n ?_ | refine st2 ?_)
      rw [e1, e2]; rfl
    · have e2 := Bool.eq_false_iff.2 e2
      refine den_ex Tryz.func110 rfl Tryz.ntmps110 (by simp) _ Tryz.results110 ?_
      repeat' (first | refine i_seq ?_ | refine k_seq ?_ | refine i_region ?_ | refine l_o ?_ | refine l_nil ?_ | (show RD _ _; refine e_do (by simp (disch := omega) only [go_sem, seval, e1, e2]; exact IsX.mk) ?_) | refine s_f ?_ | refine f_s ?_ | refine f_n ?_ | refine st2 ?_)
      rw [e1, e2]; rfl
theorem l111 (d : Nat) (x f : LabD) (hx : 0 ≤ x.str ∧ x.str ≤ 10000) (hf : 0 ≤ f.str ∧ f.str ≤ 10000) : ∃ H0, den E (d + 1) 111 [.agg x.cells, .agg f.cells] [] = some (bl (decide (30 < max (x.str - f.str) (f.str - x.str))), H0) := by
  refine den_ex Tryz.func111 rfl Tryz.ntmps111 (by simp) _ Tryz.results111 ?_
  repeat' (first | refine i_seq ?_ | refine k_seq ?_ | refine i_region ?_ | refine l_o ?_ | refine l_nil ?_ | (show RD _ _; refine e_do (by simp (disch := omega) only [go_sem, seval, wr64]; exact IsX.mk) ?_) | refine s_f ?_ | refine f_s ?_ | refine f_n ?_ | refine st2 ?_)
  rfl
theorem callV_lab {d : Nat} {g : FuncId} {x f : LabD} {v : CV} {H : Hp} {b : Bool} (hp : E.prim g = none) (hi : E.inl g = false) (hf : E.frz g = false) (hv : HasL H v f.al) (hd : ∃ H1, den E d g [.agg x.cells, .agg ({ f with nilA := isNilV v } : LabD).cells] [] = some (bl b, H1)) :
    callV E (den E d) g [.agg x.cells, .agg [i64 f.y, strC f.org, i64 f.str, v]] H = some (bl b, H) := by
  have hs := hv.sn
  exact callV_plain (args' := [.agg x.cells, .agg ({ f with nilA := isNilV v } : LabD).cells]) hp hi hf (by simp (disch := omega) only [go_sem, seval, hs]) hd rfl
noncomputable def brkS (x f : LabD) : Int :=
  if decide (f.y < x.y) = true then 23 else if (!strEq x.org ⟨#[]⟩ && !strEq x.org f.org) = true then 19 else if decide (30 < max (x.str - f.str) (f.str - x.str)) = true then 14 else if misL f.al x.al = true then 17 else 0
noncomputable def fullD (t : List GrD) (c : CellarD) (id day n : Int) : LabD := ⟨(yearsR c id day).1, orgR c id n, strR t (lotOf c id).alc (lotOf c id).mass, true, algL c (lotOf c id).sh⟩
noncomputable def checkR (t : List GrD) (c : CellarD) (id day n : Int) (x : LabD) : Int := if ¬ readyR t c id day n = 0 then readyR t c id day n else if formS x = false then 3 else brkS x (fullD t c id day n)
theorem form_str {x : LabD} (h : formS x = true) : (0 ≤ x.y ∧ x.y ≤ 300) ∧ (0 ≤ x.str ∧ x.str ≤ 10000) ∧ x.al.length ≤ 1024 ∧ AlP x.al ∧ (strEq x.org ⟨#[]⟩ = true ∨ NameP x.org) := by
  simp only [formS, Bool.and_eq_true, decide_eq_true_eq, Bool.or_eq_true, alS] at h
  refine ⟨h.1.1.1.1, h.1.1.2, h.1.2, h.2, ?_⟩
  rcases h.1.1.1.2 with e | e
  · exact .inl e
  · exact .inr (name_iff.1 e)
theorem lot_al {c : CellarD} {id : Int} (hs : FillsSm c.fills) (h : errL c id = 0) : (algL c (lotOf c id).sh).length ≤ 32000 := by
  obtain ⟨l1, l2, l3, l4, l5⟩ := lot_facts h
  have al1 := alg_len (c := c) (sh := (lotOf c id).sh) (fun i i1 i2 => by
    have hi := fillIx_is (l2 i i1 i2)
    exact (hs.f _ hi.1 hi.2.1).len) _ (Nat.le_refl _)
  rw [algL]; omega
abbrev ruleR : Blk := .row ⟨[.fn 109 [], i64 23, .fn 110 [], i64 19, .fn 111 [], i64 14, .fn 112 [], i64 17], 110, 2, true⟩
theorem l67 (d : Nat) (H : Hp) : callV E (den E (d + 1)) 67 [] H = some (.own H.length 0 4 2, H ++ [ruleR]) := by
  refine callV_inl rfl rfl ?_
  refine den_eq Tryz.func67 rfl Tryz.ntmps67 (by simp) _ Tryz.results67 ?_
  repeat' (first | refine i_seq ?_ | refine k_seq ?_ | refine i_region ?_ | refine l_o ?_ | refine l_nil ?_ | (show RD _ _; refine e_do (by simp (disch := omega) only [go_sem, seval]; exact IsX.mk) ?_) | refine s_f ?_ | refine f_s ?_ | refine f_n ?_ | refine st2 ?_)
  exact ⟨rfl, rfl⟩
theorem l23 (d : Nat) (nb : Bool) (t : List GrD) (c : CellarD) (id day n : Int) (x : LabD) (hn : t.length ≤ 1000) (hs : FillsSm c.fills) (hx : LabSm x) : ∃ H0, den E (d + 21) 23 [sl nb (flG t) t.length, .agg c.cells, i64 id, i64 day, i64 n, .agg x.cells] [] = some (i64 (checkR t c id day n x), H0) := by
  have xl := hx.len
  by_cases hw : readyR t c id day n = 0
  rotate_left
  · have k20 := fun H => cl20n d nb t c id day n hn hs H hw
    have e : checkR t c id day n x = readyR t c id day n := by unfold checkR; rw [if_pos hw]
    rw [e]
    refine den_ex Tryz.func23 rfl Tryz.ntmps23 (by simp) _ Tryz.results23 ?_
    repeat' (first | refine i_seq ?_ | refine k_seq ?_ | refine i_region ?_ | refine l_o ?_ | refine l_nil ?_ | (show RD _ _; refine e_do (by simp (disch := omega) only [go_sem, seval, k20]; exact IsX.mk) ?_) | refine s_f ?_ | refine f_s ?_ | refine f_n ?_ | refine st2 ?_)
    rfl
  · obtain ⟨hr, hy, hnn, hyy, hck⟩ := ready_inv hw
    obtain ⟨a1, a2⟩ := errY_inv hy
    have hal := lot_al hs a1
    obtain ⟨v, G, k20, hv⟩ := cl20h d nb t c id day n hn hs [.row ⟨c.cells, 25, 4, true⟩, .row ⟨x.cells, 40, 4, true⟩] hw
    obtain ⟨v2, v3⟩ := hv.lf
    have k66 := fun H => cl66 (d + 18) x H hx
    by_cases hf : formS x = true
    rotate_left
    · have hf := Bool.eq_false_iff.2 hf
      have e : checkR t c id day n x = 3 := by unfold checkR; rw [if_neg (Classical.not_not.2 hw), if_pos hf]
      rw [e]
      rw [hf] at k66
      refine den_ex Tryz.func23 rfl Tryz.ntmps23 (by simp) _ Tryz.results23 ?_
      repeat' (first | refine i_seq ?_ | refine k_seq ?_ | refine i_region ?_ | refine l_o ?_ | refine l_nil ?_ | (show RD _ _; refine e_do (by simp (disch := omega) only [go_sem, seval, k20, k66, v2, v3]; exact IsX.mk) ?_) | refine s_f ?_ | refine f_s ?_ | refine f_n ?_ | refine st2 ?_)
      rfl
    · obtain ⟨u1, u2, u3, u4, u5⟩ := form_str hf
      rw [hf] at k66
      have sb := str_bd t (lotOf c id).alc (lotOf c id).mass
      have e : checkR t c id day n x = brkS x (fullD t c id day n) := by unfold checkR; rw [if_neg (Classical.not_not.2 hw), if_neg (by rw [hf]; decide)]
      rw [e]
      have k67 := fun H => l67 (d + 19) H
      generalize hF : fullD t c id day n = f
      have fy : (yearsR c id day).1 = f.y := by rw [← hF]; rfl
      have fo : orgR c id n = f.org := by rw [← hF]; rfl
      have fs : strR t (lotOf c id).alc (lotOf c id).mass = f.str := by rw [← hF]; rfl
      have fa : algL c (lotOf c id).sh = f.al := by rw [← hF]; rfl
      rw [fy, fo, fs] at k20
      rw [fs] at sb
      rw [fa] at hv hal
      have k109 := fun R => callV_lab (x := x) (d := d + 20) (g := 109) rfl rfl rfl (hv.old R) (l109 (d + 19) x _)
      have k110 := fun R => callV_lab (x := x) (d := d + 20) (g := 110) rfl rfl rfl (hv.old R) (l110 (d + 19) x _)
      have k111 := fun R => callV_lab (x := x) (d := d + 20) (g := 111) rfl rfl rfl (hv.old R) (l111 (d + 19) x _ u2 sb)
      have k112 := fun R => callV_lab (x := x) (d := d + 20) (g := 112) rfl rfl rfl (hv.old R) (l112 (d + 14) x _ (by omega) (by simp only; omega))
      simp only [List.cons_append, List.nil_append] at k109 k110 k111 k112
      unfold brkS
      generalize hb0 : decide (f.y < x.y) = b0 at k109
      generalize hb1 : (!strEq x.org ⟨#[]⟩ && !strEq x.org f.org) = b1 at k110
      generalize hb2 : decide (30 < max (x.str - f.str) (f.str - x.str)) = b2 at k111
      generalize hb3 : misL f.al x.al = b3 at k112
      refine den_ex Tryz.func23 rfl Tryz.ntmps23 (by simp) _ Tryz.results23 ?_
      repeat' (first | refine i_seq ?_ | refine k_seq ?_ | refine i_region ?_ | refine l_o ?_ | refine l_nil ?_ | (show RD _ _; refine e_do (by simp (disch := omega) only [go_sem, seval, k20, k66, k67, v2, v3]; exact IsX.mk) ?_) | refine s_f ?_ | refine f_s ?_ | refine f_n ?_ | refine st2 ?_)
      refine i_loop (fun a : Int × Hp => upd (upd (upd (upd (upd jk 36 (i64 a.1)) 35 (i64 4)) 34 (.own (G.length + 1 + 1 + 1) 0 4 2)) 13 (.op (G.length + 1 + 1) 0)) 11 (.op 1 0))
        (fun a : Int × Hp => .row ⟨c.cells, 25, 4, true⟩ :: .row ⟨x.cells, 40, 4, true⟩ :: (G ++ .row ⟨[i64 f.y, strC f.org, i64 f.str, v], 40, 4, true⟩ :: ruleR :: a.2))
        (fun a => (4 - a.1).toNat) (fun a => 0 ≤ a.1 ∧ a.1 ≤ 4 ∧ (0 < a.1 → b0 = false) ∧ (1 < a.1 → b1 = false) ∧ (2 < a.1 → b2 = false) ∧ (3 < a.1 → b3 = false)) (0, []) (by simp only [rounds]; omega) (by simp (disch := omega) only [go_sem, seval]; try rfl) (by simp (disch := omega) only [go_sem, seval]; try rfl) ⟨by simp only; omega, by simp only; omega, fun h => by simp only at h; omega, fun h => by simp only at h; omega, fun h => by simp only at h; omega, fun h => by simp only at h; omega⟩ ?_
      rintro ⟨k, T⟩ ⟨q1, q2, q3, q4, q5, q6⟩
      simp only at q1 q2 q3 q4 q5 q6
      by_cases e0 : k = 0
      · subst e0
        cases b0
        · repeat' (first | refine i_seq ?_ | refine k_seq ?_ | refine i_region ?_ | refine l_o ?_ | refine l_nil ?_ | (show RD _ _; refine e_do (by simp (disch := omega) only [go_sem, seval, k109, v2, v3, Nat.zero_add]; exact IsX.mk) ?_) | refine s_f ?_ | refine f_s ?_ | refine f_n ?_ | refine st2 ?_)
          exact k_loop (1, _) (by simp only; omega) (by simp (disch := omega) only [go_sem, seval]; try rfl) rfl ⟨by simp only; omega, by simp only; omega, fun _ => rfl, fun h => by simp only at h; omega, fun h => by simp only at h; omega, fun h => by simp only at h; omega⟩
        · repeat' (first | refine i_seq ?_ | refine k_seq ?_ | refine i_region ?_ | refine l_o ?_ | refine l_nil ?_ | (show RD _ _; refine e_do (by simp (disch := omega) only [go_sem, seval, k109, v2, v3, Nat.zero_add]; exact IsX.mk) ?_) | refine s_f ?_ | refine f_s ?_ | refine f_n ?_ | refine st2 ?_)
          simp
      · have q3 := q3 (by omega)
        subst q3
        by_cases e1 : k = 1
        · subst e1
          cases b1
          · repeat' (first | refine i_seq ?_ | refine k_seq ?_ | refine i_region ?_ | refine l_o ?_ | refine l_nil ?_ | (show RD _ _; refine e_do (by simp (disch := omega) only [go_sem, seval, k110, v2, v3, Nat.zero_add]; exact IsX.mk) ?_) | refine s_f ?_ | refine f_s ?_ | refine f_n ?_ | refine st2 ?_)
            exact k_loop (2, _) (by simp only; omega) (by simp (disch := omega) only [go_sem, seval]; try rfl) rfl ⟨by simp only; omega, by simp only; omega, fun _ => rfl, fun _ => rfl, fun h => by simp only at h; omega, fun h => by simp only at h; omega⟩
          · repeat' (first | refine i_seq ?_ | refine k_seq ?_ | refine i_region ?_ | refine l_o ?_ | refine l_nil ?_ | (show RD _ _; refine e_do (by simp (disch := omega) only [go_sem, seval, k110, v2, v3, Nat.zero_add]; exact IsX.mk) ?_) | refine s_f ?_ | refine f_s ?_ | refine f_n ?_ | refine st2 ?_)
            simp
        · have q4 := q4 (by omega)
          subst q4
          by_cases e2 : k = 2
          · subst e2
            cases b2
            · repeat' (first | refine i_seq ?_ | refine k_seq ?_ | refine i_region ?_ | refine l_o ?_ | refine l_nil ?_ | (show RD _ _; refine e_do (by simp (disch := omega) only [go_sem, seval, k111, v2, v3, Nat.zero_add]; exact IsX.mk) ?_) | refine s_f ?_ | refine f_s ?_ | refine f_n ?_ | refine st2 ?_)
              exact k_loop (3, _) (by simp only; omega) (by simp (disch := omega) only [go_sem, seval]; try rfl) rfl ⟨by simp only; omega, by simp only; omega, fun _ => rfl, fun _ => rfl, fun _ => rfl, fun h => by simp only at h; omega⟩
            · repeat' (first | refine i_seq ?_ | refine k_seq ?_ | refine i_region ?_ | refine l_o ?_ | refine l_nil ?_ | (show RD _ _; refine e_do (by simp (disch := omega) only [go_sem, seval, k111, v2, v3, Nat.zero_add]; exact IsX.mk) ?_) | refine s_f ?_ | refine f_s ?_ | refine f_n ?_ | refine st2 ?_)
              simp
          · have q5 := q5 (by omega)
            subst q5
            by_cases e3 : k = 3
            · subst e3
              cases b3
              · repeat' (first | refine i_seq ?_ | refine k_seq ?_ | refine i_region ?_ | refine l_o ?_ | refine l_nil ?_ | (show RD _ _; refine e_do (by simp (disch := omega) only [go_sem, seval, k112, v2, v3, Nat.zero_add]; exact IsX.mk) ?_) | refine s_f ?_ | refine f_s ?_ | refine f_n ?_ | refine st2 ?_)
                exact k_loop (4, _) (by simp only; omega) (by simp (disch := omega) only [go_sem, seval]; try rfl) rfl ⟨by simp only; omega, by simp only; omega, fun _ => rfl, fun _ => rfl, fun _ => rfl, fun _ => rfl⟩
              · repeat' (first | refine i_seq ?_ | refine k_seq ?_ | refine i_region ?_ | refine l_o ?_ | refine l_nil ?_ | (show RD _ _; refine e_do (by simp (disch := omega) only [go_sem, seval, k112, v2, v3, Nat.zero_add]; exact IsX.mk) ?_) | refine s_f ?_ | refine f_s ?_ | refine f_n ?_ | refine st2 ?_)
                simp
            · have q6 := q6 (by omega)
              subst q6
              have : k = 4 := by omega
              subst this
              repeat' (first | refine i_seq ?_ | refine k_seq ?_ | refine i_region ?_ | refine l_o ?_ | refine l_nil ?_ | (show RD _ _; refine e_do (by simp (disch := omega) only [go_sem, seval]; exact IsX.mk) ?_) | refine s_f ?_ | refine f_s ?_ | refine f_n ?_ | refine st2 ?_)
              simp
end Go.Age
end
section
set_option linter.all false
set_option linter.unusedVariables false
set_option maxRecDepth 1000000
set_option maxHeartbeats 8000000
namespace Go.Age
open Go.Den Go.Proofs
end Go.Age
end
section
set_option linter.all false
set_option linter.unusedVariables false
set_option linter.unusedSimpArgs false
set_option maxRecDepth 100000
set_option maxHeartbeats 8000000
attribute [local irreducible] Go.Den.W Go.Den.WL Go.Den.WX Go.Den.WQ Go.Den.QR Go.Den.WG Go.Den.WO Go.Den.WK Go.Den.grows Go.Den.stepOp Go.Den.callV Go.Den.den
namespace Go.Age
open Go.Den Go.Proofs
noncomputable def ripeR (c : CellarD) (id n : Int) : Int × Int := if errY c id = 0 then (if n < 0 ∨ 300 < n then (0, 2) else calLater (ygL c id).day (12 * n)) else (0, errY c id)
theorem years_is {a b : Int} (ha : 0 ≤ a ∧ a ≤ 100000) (hb : 0 ≤ b ∧ b ≤ 100000) (hab : a ≤ b) : IsYears a b (yearsS a b) ∧ calYears a b = (yearsS a b, 0) := by
  refine ⟨(years_sub ha hb hab).2.2, ?_⟩
  simp [calYears, isDay_t ha, isDay_t hb, hab]
end Go.Age
end
section
set_option linter.all false
set_option linter.unusedVariables false
set_option linter.unusedSimpArgs false
set_option maxRecDepth 100000
set_option maxHeartbeats 8000000
attribute [local irreducible] Go.Den.W Go.Den.WL Go.Den.WX Go.Den.WQ Go.Den.QR Go.Den.WG Go.Den.WO Go.Den.WK Go.Den.grows Go.Den.stepOp Go.Den.callV Go.Den.den
namespace Go.Age
open Go.Den Go.Proofs
theorem alg_len16 {c : CellarD} {sh : List ShD} (h : ∀ i : Int, 0 ≤ i → i < sh.length → (fOf c (sAt sh i).fill).al.length ≤ 16) : ∀ n : Nat, n ≤ sh.length → (algN c sh n).length ≤ 16 * n
  | 0, _ => by simp [algN]
  | n + 1, hn => by
    have h1 := alg_len16 h n (by omega)
    have h2 := h n (by omega) (by omega)
    have h3 := fold_len (fOf c (sAt sh n).fill).al (algN c sh n)
    simp only [algN]; omega
theorem fill_facts {c : CellarD} {id : Int} (h : errL c id = 0) {i : Int} (h0 : 0 ≤ i) (h1 : i < (lotOf c id).sh.length) : NameP (fOf c (sAt (lotOf c id).sh i).fill).org ∧ (fOf c (sAt (lotOf c id).sh i).fill).al.length ≤ 16 ∧ AlP (fOf c (sAt (lotOf c id).sh i).fill).al := by
  obtain ⟨l1, l2, l3, l4, l5⟩ := lot_facts h
  have hS := (err_inv h).1
  have hf := fillIx_is (l2 i h0 h1)
  have hfs := (hS.fills.2.2 _ hf.1 hf.2.1).1
  have ef : fAt c.fills (fillIx c.fills (sAt (lotOf c id).sh i).fill) = fOf c (sAt (lotOf c id).sh i).fill := rfl
  rw [ef] at hfs
  simp only [fillS, Bool.and_eq_true, decide_eq_true_eq, alS] at hfs
  exact ⟨name_iff.1 hfs.1.1.2, hfs.1.2, hfs.2⟩
theorem alg_512 {c : CellarD} {id : Int} (h : errL c id = 0) : (algL c (lotOf c id).sh).length ≤ 512 := by
  have l1 := (lot_facts h).1
  have := alg_len16 (c := c) (sh := (lotOf c id).sh) (fun i i1 i2 => (fill_facts h i1 i2).2.1) _ (Nat.le_refl _)
  rw [algL]; omega
theorem alg_ok {c : CellarD} {id : Int} (h : errL c id = 0) : AlP (algL c (lotOf c id).sh) := by
  refine ⟨fun i i0 i1 => ?_, fun i i0 i1 => ord_at (alg_ord c (lotOf c id).sh) (by omega) i1⟩
  have hm := al_mem ⟨i0, i1⟩
  obtain ⟨j, j1, j2⟩ := alg_in.1 hm
  obtain ⟨n, hn, e⟩ := List.mem_iff_getElem.1 j2
  have := (fill_facts h (show (0 : Int) ≤ j by omega) (by omega)).2.2.n n (by omega) (by omega)
  have e2 : alAt (fOf c (sAt (lotOf c id).sh j).fill).al (n : Int) = (fOf c (sAt (lotOf c id).sh j).fill).al[n] := by simp [alAt, List.getD, hn]
  rw [e2, e] at this
  exact this
theorem org_name {c : CellarD} {id n : Int} {o : ByteArray} (h : errL c id = 0) (ho : OrgIs c (lotOf c id).sh (lotOf c id).alc n o) : strEq o ⟨#[]⟩ = true ∨ NameP o := by
  have sl1 : (sumL c (lotOf c id).sh).length = (namL c (lotOf c id).sh).length := by rw [sumL, List.length_map]
  obtain ⟨r, hr, rfl⟩ := ho
  rcases hr with ⟨rfl, h2⟩ | ⟨r0, r1, r2, r3⟩
  · rw [if_pos rfl, str_eq_iff]; exact .inl rfl
  · rw [if_neg (by omega)]
    have hm : alAt (namL c (lotOf c id).sh) r ∈ namL c (lotOf c id).sh := al_mem ⟨r0, by omega⟩
    rw [nam_in, org_in] at hm
    obtain ⟨j, j1, j2⟩ := hm
    rw [j2]
    exact .inr (fill_facts h (by omega) (by omega)).1
theorem years_of {c : CellarD} {id day : Int} (he : errY c id = 0) (h : (yearsR c id day).2 = 0) : ((ygL c id).day ≤ day ∧ day ≤ 100000) ∧ (yearsR c id day).1 = yearsS (ygL c id).day day ∧ IsYears (ygL c id).day day (yearsS (ygL c id).day day) := by
  have hb := (yg_bd he).day
  have e : yearsR c id day = calYears (ygL c id).day day := by simp only [yearsR, he, if_true]
  rw [e] at h ⊢
  by_cases h1 : 0 ≤ day ∧ day ≤ 100000
  · by_cases h2 : day < (ygL c id).day
    · simp only [calYears, isDay_t hb, isDay_t h1, and_self, if_true] at h
      rw [if_neg (by omega)] at h
      cases h
    · have := years_is hb h1 (by omega)
      rw [this.2]
      exact ⟨⟨by omega, h1.2⟩, rfl, this.1⟩
  · simp [calYears, isDay_f h1] at h
theorem years_up {a b b' : Int} (ha : 0 ≤ a ∧ a ≤ 100000) {y y' : Int} (h : IsYears a b y) (h' : IsYears a b' y') (hb : b ≤ b') : y ≤ y' := by
  obtain ⟨a1, a2, a3, a4⟩ := h
  obtain ⟨b1, b2, b3, b4⟩ := h'
  rcases Int.lt_or_le y' y with e | e
  · by_cases e2 : y' + 1 = y
    · rw [e2] at b4; omega
    · have := later_mono ha (a := y' + 1) (b := y) (by omega) (by omega) (by omega)
      omega
  · exact e
theorem ready_later {t : List GrD} {c : CellarD} {id day n m : Int} (h : readyR t c id day n = 0) (h0 : 0 ≤ m) (h1 : day + m ≤ 100000) : readyR t c id (day + m) n = 0 ∧ (yearsR c id day).1 ≤ (yearsR c id (day + m)).1 := by
  obtain ⟨hr, hy, hnn, hyy, hck⟩ := ready_inv h
  obtain ⟨y1, y2, y3⟩ := years_of hy hyy
  have hb := (yg_bd hy).day
  have e : yearsR c id (day + m) = calYears (ygL c id).day (day + m) := by simp only [yearsR, hy, if_true]
  have hy2 := years_is hb (show 0 ≤ day + m ∧ day + m ≤ 100000 by omega) (by omega)
  rw [hy2.2] at e
  refine ⟨ready_of hr hy hnn (by rw [e]) hck, ?_⟩
  rw [y2, e]
  exact years_up hb y3 hy2.1 (by omega)
section
variable {t : List GrD} {c : CellarD} {id day n : Int} (h : readyR t c id day n = 0)
include h
theorem full_form : formS (fullD t c id day n) = true := by
  obtain ⟨hr, hy, hnn, hyy, hck⟩ := ready_inv h
  obtain ⟨a1, a2⟩ := errY_inv hy
  obtain ⟨y1, y2, y3⟩ := years_of hy hyy
  have sb := str_bd t (lotOf c id).alc (lotOf c id).mass
  have al := alg_512 a1
  have ho : ∃ o, OrgIs c (lotOf c id).sh (lotOf c id).alc n o := by
    have hx : ∀ k : Nat, (∃ r : Int, 0 ≤ r ∧ r < k ∧ decide ((lotOf c id).alc * n ≤ iAt (sumL c (lotOf c id).sh) r * 10000) = true ∧ ∀ j : Int, 0 ≤ j → j < r → decide ((lotOf c id).alc * n ≤ iAt (sumL c (lotOf c id).sh) j * 10000) = false) ∨ ∀ j : Int, 0 ≤ j → j < k → decide ((lotOf c id).alc * n ≤ iAt (sumL c (lotOf c id).sh) j * 10000) = false := by
      intro k
      induction k with
      | zero => exact .inr fun j j0 j1 => by omega
      | succ k ih =>
        rcases ih with ⟨r, r0, r1, r2⟩ | ih
        · exact .inl ⟨r, r0, by omega, r2⟩
        · by_cases e : decide ((lotOf c id).alc * n ≤ iAt (sumL c (lotOf c id).sh) k * 10000) = true
          · exact .inl ⟨k, by omega, by omega, e, fun j j0 j1 => ih j j0 j1⟩
          · refine .inr fun j j0 j1 => ?_
            by_cases ej : j = k
            · subst ej; exact Bool.eq_false_iff.2 e
            · exact ih j j0 (by omega)
    rcases hx (sumL c (lotOf c id).sh).length with ⟨r, r0, r1, r2, r3⟩ | hx
    · exact ⟨_, r, .inr ⟨r0, r1, r2, r3⟩, rfl⟩
    · exact ⟨_, -1, .inl ⟨rfl, hx⟩, rfl⟩
  obtain ⟨o, ho⟩ := ho
  have hn := org_name a1 ho
  have eo : orgR c id n = o := org_is ho
  have d1 : decide (0 ≤ (yearsR c id day).1 ∧ (yearsR c id day).1 ≤ 300) = true := decide_eq_true (by rw [y2]; have := y3.1; have := y3.2.1; omega)
  have d2 : (strEq (orgR c id n) ⟨#[]⟩ || nameS (orgR c id n)) = true := by
    rw [eo]
    rcases hn with e | e
    · rw [e]; rfl
    · rw [name_t e, Bool.or_true]
  have d3 : decide (0 ≤ strR t (lotOf c id).alc (lotOf c id).mass ∧ strR t (lotOf c id).alc (lotOf c id).mass ≤ 10000) = true := decide_eq_true sb
  have d4 : decide ((algL c (lotOf c id).sh).length ≤ 1024) = true := decide_eq_true (by omega)
  unfold formS fullD
  simp only [d1, d2, d3, d4, al_t (alg_ok a1), Bool.and_self]
theorem full_sm : LabSm (fullD t c id day n) ∧ (fullD t c id day n).al.length ≤ 512 := by
  obtain ⟨hr, hy, hnn, hyy, hck⟩ := ready_inv h
  obtain ⟨a1, a2⟩ := errY_inv hy
  obtain ⟨u1, u2, u3, u4, u5⟩ := form_str (full_form h)
  have al := alg_512 a1
  refine ⟨⟨?_, by omega, fun i i0 i1 => by have := (u4.n i i0 i1).l2; omega⟩, al⟩
  rcases u5 with e | e
  · rw [str_eq_iff.1 e]; decide
  · have := e.l2; omega
end
theorem form_of {x : LabD} (h1 : 0 ≤ x.y ∧ x.y ≤ 300) (h2 : strEq x.org ⟨#[]⟩ = true ∨ NameP x.org) (h3 : 0 ≤ x.str ∧ x.str ≤ 10000) (h4 : x.al.length ≤ 1024) (h5 : AlP x.al) : formS x = true := by
  have d2 : (strEq x.org ⟨#[]⟩ || nameS x.org) = true := by
    rcases h2 with e | e
    · rw [e]; rfl
    · rw [name_t e, Bool.or_true]
  simp only [formS, decide_eq_true h1, d2, decide_eq_true h3, decide_eq_true h4, al_t h5, Bool.and_self]
theorem misL_f {l m : List ByteArray} (h : ∀ a ∈ l, a ∈ m) : misL l m = false := Bool.eq_false_iff.2 fun e => by
  obtain ⟨a, ha, hn⟩ := misL_iff.1 e
  exact hn (h a ha)
theorem al_tail {l : List ByteArray} (h : AlP l) : AlP l.tail := by
  cases l with
  | nil => exact h
  | cons a l =>
    have e : ∀ i : Int, 0 ≤ i → alAt (a :: l) (i + 1) = alAt l i := fun i hi => by
      simp only [alAt, show (i + 1).toNat = i.toNat + 1 by omega, List.getD_cons_succ]
    refine ⟨fun i i0 i1 => ?_, fun i i0 i1 => ?_⟩
    · have := h.n (i + 1) (by omega) (by simp only [List.length_cons, List.tail_cons] at i1 ⊢; omega)
      rwa [e i i0] at this
    · have := h.o (i + 1) (by omega) (by simp only [List.length_cons, List.tail_cons] at i1 ⊢; omega)
      rw [e i (by omega), show i + 1 - 1 = (i - 1) + 1 by omega, e (i - 1) (by omega)] at this
      exact this
theorem alp_ord : ∀ {l : List ByteArray}, AlP l → Ord l
  | [], _ => List.Pairwise.nil
  | [a], _ => by simp [Ord]
  | a :: b :: l, h => by
    have ih : Ord (b :: l) := alp_ord (l := b :: l) (al_tail h)
    have hab : strLt a b = true := by
      have := h.o 1 (by omega) (by simp only [List.length_cons]; omega)
      simpa [alAt] using this
    refine List.pairwise_cons.2 ⟨fun x hx => ?_, ih⟩
    rcases List.mem_cons.1 hx with rfl | hx
    · exact hab
    · exact lt_trans' hab ((List.pairwise_cons.1 ih).1 x hx)
theorem brk_rest {x f : LabD} (h1 : x.y ≤ f.y) (h2 : strEq x.org ⟨#[]⟩ = true ∨ strEq x.org f.org = true) : brkS x f = if decide (30 < max (x.str - f.str) (f.str - x.str)) = true then 14 else if misL f.al x.al = true then 17 else 0 := by
  unfold brkS
  have d1 : decide (f.y < x.y) = false := decide_eq_false (by omega)
  have d2 : (!strEq x.org ⟨#[]⟩ && !strEq x.org f.org) = false := by
    rcases h2 with e | e
    · rw [e]; rfl
    · rw [e, Bool.not_true, Bool.and_false]
  rw [d1, d2]
  rfl
theorem strEq_self (s : ByteArray) : strEq s s = true := str_eq_iff.2 rfl
theorem brk_0 {x f : LabD} (h1 : x.y ≤ f.y) (h2 : strEq x.org ⟨#[]⟩ = true ∨ x.org = f.org) (h3 : x.str = f.str) (h4 : ∀ a ∈ f.al, a ∈ x.al) : brkS x f = 0 := by
  unfold brkS
  have d1 : decide (f.y < x.y) = false := decide_eq_false (by omega)
  have d2 : (!strEq x.org ⟨#[]⟩ && !strEq x.org f.org) = false := by
    rcases h2 with e | e
    · rw [e]; rfl
    · rw [e, strEq_self, Bool.not_true, Bool.and_false]
  have d3 : decide (30 < max (x.str - f.str) (f.str - x.str)) = false := decide_eq_false (by rw [h3]; omega)
  rw [d1, d2, d3, misL_f h4]
  rfl
theorem brk_23 {x f : LabD} (h1 : f.y < x.y) : brkS x f = 23 := by
  unfold brkS; rw [if_pos (decide_eq_true h1)]
theorem brk_19 {x f : LabD} (h1 : x.y ≤ f.y) (h2 : strEq x.org ⟨#[]⟩ = false) (h3 : strEq x.org f.org = false) : brkS x f = 19 := by
  unfold brkS
  rw [decide_eq_false (by omega), h2, h3]; rfl
theorem brk_17 {x f : LabD} (h1 : x.y ≤ f.y) (h2 : x.org = f.org) (h3 : x.str = f.str) (h4 : misL f.al x.al = true) : brkS x f = 17 := by
  unfold brkS
  have d1 : decide (f.y < x.y) = false := decide_eq_false (by omega)
  have d2 : (!strEq x.org ⟨#[]⟩ && !strEq x.org f.org) = false := by rw [h2, strEq_self, Bool.not_true, Bool.and_false]
  have d3 : decide (30 < max (x.str - f.str) (f.str - x.str)) = false := decide_eq_false (by rw [h3]; omega)
  rw [d1, d2, d3, h4]
  rfl
end Go.Age
end
