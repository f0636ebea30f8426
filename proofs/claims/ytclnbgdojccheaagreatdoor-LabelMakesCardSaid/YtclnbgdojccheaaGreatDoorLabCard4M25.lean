/- Part of the proof of LabelMakesCardSaid. -/
import Derived.Test.YtclnbgdojccheaaGreatDoorLabCard4M19
import Derived.Test.YtclnbgdojccheaaGreatDoorLabCard4M22
import Derived.Test.YtclnbgdojccheaaGreatDoorLabCard4M23
import Derived.Test.YtclnbgdojccheaaGreatDoorLabCard4M20
section
set_option linter.all false
set_option linter.unusedVariables false
set_option linter.unusedSimpArgs false
set_option maxRecDepth 100000
set_option maxHeartbeats 8000000
attribute [local irreducible] Go.Den.W Go.Den.WL Go.Den.WX Go.Den.WQ Go.Den.QR Go.Den.WG Go.Den.WO Go.Den.WK Go.Den.grows Go.Den.stepOp Go.Den.callV Go.Den.den
namespace Go.Age
open Go.Den Go.Proofs
theorem l134 (d : Nat) (nb : Bool) (l : List GrD) (hn : l.length ≤ 1000) : ∃ r H0, den E (d + 1) 134 [sl nb (flG l) l.length] [] = some (r, H0) ∧ ∃ a e : Int, r = .tup [i64 a, i64 e] ∧ (e = 0 ↔ RightP l) := by
  refine den_of_W Tryz.func134 rfl Tryz.ntmps134 (by simp) _ Tryz.results134 ?_
  by_cases h1 : 128 < l.length
  · repeat' (first | refine i_seq ?_ | refine k_seq ?_ | refine i_region ?_ | refine l_o ?_ | refine l_nil ?_ | (show RD _ _; refine e_do (by simp (disch := omega) only [go_sem, seval]; exact IsX.mk) ?_) | refine s_f ?_ | refine f_s ?_ | refine f_n ?_ | refine st2 ?_)
    exact ⟨_, _, rfl, by simp only [RightP]; omega⟩
  · by_cases h2 : l.length < 2
    · repeat' (first | refine i_seq ?_ | refine k_seq ?_ | refine i_region ?_ | refine l_o ?_ | refine l_nil ?_ | (show RD _ _; refine e_do (by simp (disch := omega) only [go_sem, seval]; exact IsX.mk) ?_) | refine s_f ?_ | refine f_s ?_ | refine f_n ?_ | refine st2 ?_)
      exact ⟨_, _, rfl, by simp only [RightP]; omega⟩
    · repeat' (first | refine i_seq ?_ | refine k_seq ?_ | refine i_region ?_ | refine l_o ?_ | refine l_nil ?_ | (show RD _ _; refine e_do (by simp (disch := omega) only [go_sem, seval]; exact IsX.mk) ?_) | refine s_f ?_ | refine f_s ?_ | refine f_n ?_ | refine st2 ?_)
      refine i_loop (fun a : Int => upd (upd jk 4 (i64 a)) 0 (sl nb (flG l) l.length)) (fun a : Int => [])
        (fun a => (l.length - a).toNat) (fun a => 0 ≤ a ∧ a ≤ l.length ∧ ∀ j : Int, 0 ≤ j → j < a → RowOk l j) 0 (by simp only [rounds]; omega) (by simp (disch := omega) only [go_sem, seval]) (by simp) ⟨by omega, by omega, fun j h1 h2 => by omega⟩ ?_
      rintro k ⟨q1, q2, q3⟩
      by_cases hk : k < l.length
      · by_cases c1 : (gAt l k).s < 0 ∨ 10000 < (gAt l k).s ∨ (gAt l k).d < 50000 ∨ 120000 < (gAt l k).d
        · have hn : ¬ RightP l := fun h => by
            have := h.2.2.1 k q1 hk
            simp only [RowOk] at this
            omega
          repeat' (first | (first | refine i_seq ?_ | refine k_seq ?_ | refine i_region ?_ | refine l_o ?_ | refine l_nil ?_ | (show RD _ _; refine e_do (by simp (disch := omega) only [go_sem, seval, wr64, drop_flG1]; exact IsX.mk) ?_) | refine s_f ?_ | refine f_s ?_ | refine f_n ?_ | refine st2 ?_) | (first | refine x2_split (fun h => ?_) (fun h => ?_) | refine q2_split (fun h => ?_) (fun h => ?_)) <;> (try simp only [beq_iff_eq, bne_iff_ne, beq_eq_false_iff_ne, bne_eq_false_iff_eq, ne_eq, decide_eq_true_eq, decide_eq_false_iff_not, gt_iff_lt, ge_iff_le, Bool.not_eq_true', Bool.not_eq_false'] at h))
          all_goals first | exact ⟨_, _, rfl, ⟨fun h => by omega, fun h => absurd h hn⟩⟩ | (exfalso; omega)
        · by_cases kp : 0 < k
          · by_cases c2 : (gAt l k).s ≤ (gAt l (k - 1)).s
            · have hn : ¬ RightP l := fun h => by
                have := h.2.2.1 k q1 hk
                simp only [RowOk] at this
                omega
              repeat' (first | refine i_seq ?_ | refine k_seq ?_ | refine i_region ?_ | refine l_o ?_ | refine l_nil ?_ | (show RD _ _; refine e_do (by simp (disch := omega) only [go_sem, seval, wr64, drop_flG1]; exact IsX.mk) ?_) | refine s_f ?_ | refine f_s ?_ | refine f_n ?_ | refine st2 ?_)
              exact ⟨_, _, rfl, ⟨fun h => by omega, fun h => absurd h hn⟩⟩
            · by_cases c3 : (gAt l (k - 1)).d < (gAt l k).d
              · have hn : ¬ RightP l := fun h => by
                  have := h.2.2.1 k q1 hk
                  simp only [RowOk] at this
                  omega
                repeat' (first | refine i_seq ?_ | refine k_seq ?_ | refine i_region ?_ | refine l_o ?_ | refine l_nil ?_ | (show RD _ _; refine e_do (by simp (disch := omega) only [go_sem, seval, wr64, drop_flG1]; exact IsX.mk) ?_) | refine s_f ?_ | refine f_s ?_ | refine f_n ?_ | refine st2 ?_)
                exact ⟨_, _, rfl, ⟨fun h => by omega, fun h => absurd h hn⟩⟩
              · have hr : RowOk l k := by simp only [RowOk]; omega
                repeat' (first | refine i_seq ?_ | refine k_seq ?_ | refine i_region ?_ | refine l_o ?_ | refine l_nil ?_ | (show RD _ _; refine e_do (by simp (disch := omega) only [go_sem, seval, wr64, drop_flG1]; exact IsX.mk) ?_) | refine s_f ?_ | refine f_s ?_ | refine f_n ?_ | refine st2 ?_)
                refine k_loop (k + 1) (by omega) (by simp (disch := omega) only [go_sem, seval, wr64]; try rfl) rfl ⟨by omega, by omega, fun j j1 j2 => ?_⟩
                by_cases ej : j = k
                · subst ej; exact hr
                · exact q3 j j1 (by omega)
          · have hr : RowOk l k := by simp only [RowOk]; omega
            repeat' (first | refine i_seq ?_ | refine k_seq ?_ | refine i_region ?_ | refine l_o ?_ | refine l_nil ?_ | (show RD _ _; refine e_do (by simp (disch := omega) only [go_sem, seval, wr64, drop_flG1]; exact IsX.mk) ?_) | refine s_f ?_ | refine f_s ?_ | refine f_n ?_ | refine st2 ?_)
            refine k_loop (k + 1) (by omega) (by simp (disch := omega) only [go_sem, seval, wr64]; try rfl) rfl ⟨by omega, by omega, fun j j1 j2 => ?_⟩
            by_cases ej : j = k
            · subst ej; exact hr
            · exact q3 j j1 (by omega)
      · have : k = l.length := by omega
        subst this
        obtain ⟨rest, r0⟩ : ∃ rest, CV.rp (flG l) = CV.rp (i64 (gAt l 0).s :: i64 (gAt l 0).d :: rest) := ⟨_, by
          have := drop_flG l 0 (by omega)
          rw [← this]; rfl⟩
        by_cases e1 : (gAt l 0).s = 0
        · by_cases e2 : (gAt l ((l.length : Int) - 1)).s = 10000
          · repeat' (first | refine i_seq ?_ | refine k_seq ?_ | refine i_region ?_ | refine l_o ?_ | refine l_nil ?_ | (show RD _ _; refine e_do (by simp (disch := omega) only [go_sem, seval, wr64, r0, e1, e2]; exact IsX.mk) ?_) | refine s_f ?_ | refine f_s ?_ | refine f_n ?_ | refine st2 ?_)
            exact ⟨_, _, rfl, by simp only [true_iff]; exact ⟨by omega, by omega, q3, e1, e2⟩⟩
          · repeat' (first | refine i_seq ?_ | refine k_seq ?_ | refine i_region ?_ | refine l_o ?_ | refine l_nil ?_ | (show RD _ _; refine e_do (by simp (disch := omega) only [go_sem, seval, wr64, r0, e1]; exact IsX.mk) ?_) | refine s_f ?_ | refine f_s ?_ | refine f_n ?_ | refine st2 ?_)
            exact ⟨_, _, rfl, ⟨fun h => by omega, fun h => absurd h.2.2.2.2 e2⟩⟩
        · repeat' (first | refine i_seq ?_ | refine k_seq ?_ | refine i_region ?_ | refine l_o ?_ | refine l_nil ?_ | (show RD _ _; refine e_do (by simp (disch := omega) only [go_sem, seval, wr64, r0]; exact IsX.mk) ?_) | refine s_f ?_ | refine f_s ?_ | refine f_n ?_ | refine st2 ?_)
          exact ⟨_, _, rfl, ⟨fun h => by omega, fun h => absurd h.2.2.2.1 e1⟩⟩
open Classical in
theorem l102 (d : Nat) (nb : Bool) (l : List GrD) (hn : l.length ≤ 1000) (H : Hp) : callV E (den E (d + 2)) 102 [sl nb (flG l) l.length] H = some (bl (decide (RightP l)), H) := by
  refine callV_plain (args' := [sl nb (flG l) l.length]) rfl rfl rfl (by simp (disch := omega) only [go_sem, seval]) ?_ rfl
  obtain ⟨r, H0, g1, x, e, rfl, g2⟩ := l134 d nb l hn
  have k134 : ∀ H, callV E (den E (d + 1)) 134 [sl nb (flG l) l.length] H = some (.tup [i64 x, i64 e], H) := fun H => callV_plain rfl rfl rfl (by simp (disch := omega) only [go_sem, seval]) ⟨H0, g1⟩ rfl
  by_cases he : e = 0
  · rw [decide_eq_true (g2.1 he)]
    refine den_ex Tryz.func102 rfl Tryz.ntmps102 (by simp) _ Tryz.results102 ?_
    repeat' (first | refine i_seq ?_ | refine k_seq ?_ | refine i_region ?_ | refine l_o ?_ | refine l_nil ?_ | (show RD _ _; refine e_do (by simp (disch := omega) only [go_sem, seval, k134]; exact IsX.mk) ?_) | refine s_f ?_ | refine f_s ?_ | refine f_n ?_ | refine st2 ?_)
    rfl
  · rw [decide_eq_false (fun h => he (g2.2 h))]
    refine den_ex Tryz.func102 rfl Tryz.ntmps102 (by simp) _ Tryz.results102 ?_
    repeat' (first | refine i_seq ?_ | refine k_seq ?_ | refine i_region ?_ | refine l_o ?_ | refine l_nil ?_ | (show RD _ _; refine e_do (by simp (disch := omega) only [go_sem, seval, k134]; exact IsX.mk) ?_) | refine s_f ?_ | refine f_s ?_ | refine f_n ?_ | refine st2 ?_)
    rfl
theorem l162 (d : Nat) (nb : Bool) (l : List GrD) (s : Int) (hr : RightP l) (h0 : 0 ≤ s) : ∃ i : Int, (∀ H, callV E (den E (d + 1)) 162 [sl nb (flG l) l.length, i64 s] H = some (i64 i, H)) ∧ 0 ≤ i ∧ i < l.length ∧ (gAt l i).s ≤ s ∧ (i + 1 < l.length → s < (gAt l (i + 1)).s) := by
  have r1 := hr.1
  have r2 := hr.2.1
  have : ∃ r H0, den E (d + 1) 162 [sl nb (flG l) l.length, i64 s] [] = some (r, H0) ∧ ∃ i : Int, r = i64 i ∧ 0 ≤ i ∧ i < l.length ∧ (gAt l i).s ≤ s ∧ (i + 1 < l.length → s < (gAt l (i + 1)).s) := by
    refine den_of_W Tryz.func162 rfl Tryz.ntmps162 (by simp) _ Tryz.results162 ?_
    repeat' (first | refine i_seq ?_ | refine k_seq ?_ | refine i_region ?_ | refine l_o ?_ | refine l_nil ?_ | (show RD _ _; refine e_do (by simp (disch := omega) only [go_sem, seval]; exact IsX.mk) ?_) | refine s_f ?_ | refine f_s ?_ | refine f_n ?_ | refine st2 ?_)
    refine i_loop (fun a : Int × Int => upd (upd (upd (upd jk 6 (i64 a.1)) 5 (i64 a.2)) 1 (i64 s)) 0 (sl nb (flG l) l.length)) (fun a : Int × Int => [])
      (fun a => (l.length - a.1).toNat) (fun a => 0 ≤ a.1 ∧ a.1 ≤ l.length ∧ 0 ≤ a.2 ∧ a.2 < l.length ∧ (gAt l a.2).s ≤ s ∧ (a.2 + 1 < a.1 → s < (gAt l (a.2 + 1)).s) ∧ (0 < a.1 → a.2 < a.1)) (0, 0) (by simp only [rounds]; omega) (by simp (disch := omega) only [go_sem, seval]; try rfl) (by simp) ⟨by simp only; omega, by simp only; omega, by simp only; omega, by simp only; omega, by simp only; rw [hr.2.2.2.1]; exact h0, fun h => by simp only at h; omega, fun h => by simp only at h; omega⟩ ?_
    rintro ⟨k, i⟩ ⟨q1, q2, q3, q4, q5, q6, q7⟩
    simp only at q1 q2 q3 q4 q5 q6 q7
    by_cases hk : k < l.length
    · by_cases e : (gAt l k).s ≤ s
      · repeat' (first | refine i_seq ?_ | refine k_seq ?_ | refine i_region ?_ | refine l_o ?_ | refine l_nil ?_ | (show RD _ _; refine e_do (by simp (disch := omega) only [go_sem, seval, wr64]; exact IsX.mk) ?_) | refine s_f ?_ | refine f_s ?_ | refine f_n ?_ | refine st2 ?_)
        refine k_loop (k + 1, k) (by simp only; omega) (by simp (disch := omega) only [go_sem, seval, wr64]; try rfl) rfl ⟨by simp only; omega, by simp only; omega, by simp only; omega, by simp only; omega, e, fun h => by simp only at h; omega, fun _ => by simp only; omega⟩
      · repeat' (first | refine i_seq ?_ | refine k_seq ?_ | refine i_region ?_ | refine l_o ?_ | refine l_nil ?_ | (show RD _ _; refine e_do (by simp (disch := omega) only [go_sem, seval, wr64]; exact IsX.mk) ?_) | refine s_f ?_ | refine f_s ?_ | refine f_n ?_ | refine st2 ?_)
        refine k_loop (k + 1, i) (by simp only; omega) (by simp (disch := omega) only [go_sem, seval, wr64]; try rfl) rfl ⟨by simp only; omega, by simp only; omega, q3, q4, q5, fun h => ?_, fun _ => ?_⟩
        · simp only at h ⊢
          by_cases e2 : i + 1 < k
          · exact q6 e2
          · have : i + 1 = k := by omega
            rw [this]; omega
        · simp only
          by_cases k0 : 0 < k
          · have := q7 k0; omega
          · have : k = 0 := by omega
            subst this
            rw [hr.2.2.2.1] at e
            omega
    · have : k = l.length := by omega
      subst this
      repeat' (first | refine i_seq ?_ | refine k_seq ?_ | refine i_region ?_ | refine l_o ?_ | refine l_nil ?_ | (show RD _ _; refine e_do (by simp (disch := omega) only [go_sem, seval]; exact IsX.mk) ?_) | refine s_f ?_ | refine f_s ?_ | refine f_n ?_ | refine st2 ?_)
      exact ⟨i, rfl, q3, q4, q5, q6⟩
  obtain ⟨r, H0, h, i, rfl, hi⟩ := this
  exact ⟨i, fun H => callV_plain rfl rfl rfl (by simp (disch := omega) only [go_sem, seval]) ⟨H0, h⟩ rfl, hi⟩
theorem l163 (d : Nat) (a b : GrD) (s : Int) (h0 : 0 ≤ a.s) (hs : a.s < b.s) (h2 : b.s ≤ 10000) (h3 : a.s ≤ s) (h4 : s ≤ b.s) (hd0 : 50000 ≤ b.d) (hd : b.d ≤ a.d) (hd1 : a.d ≤ 120000) (H : Hp) : callV E (den E (d + 1)) 163 [.agg a.cells, .agg b.cells, i64 s] H = some (i64 (lineV a b s), H) := by
  refine callV_plain (args' := [.agg a.cells, .agg b.cells, i64 s]) rfl rfl rfl (by simp (disch := omega) only [go_sem, seval]) ?_ rfl
  obtain ⟨p1, p2, p3⟩ := line_bd h0 hs h2 h3 h4 hd0 hd hd1
  have p4 := line_ref a b s
  have p5 := prod_bd (show 0 ≤ a.d by omega) hd1 (show 0 ≤ b.s - a.s by omega) (show b.s - a.s ≤ 10000 by omega)
  have hne : ¬ 2 * (b.s - a.s) = 0 := by omega
  refine den_ex Tryz.func163 rfl Tryz.ntmps163 (by simp) _ Tryz.results163 ?_
  repeat' (first | refine i_seq ?_ | refine k_seq ?_ | refine i_region ?_ | refine l_o ?_ | refine l_nil ?_ | (show RD _ _; refine e_do (by simp (disch := omega) only [go_sem, seval, wr64, td, p4, hne]; exact IsX.mk) ?_) | refine s_f ?_ | refine f_s ?_ | refine f_n ?_ | refine st2 ?_)
  rfl
theorem l136 (d : Nat) (nb : Bool) (l : List GrD) (s : Int) (hr : RightP l) (h0 : 0 ≤ s) (h1 : s ≤ 10000) (H : Hp) : callV E (den E (d + 2)) 136 [sl nb (flG l) l.length, i64 s] H = some (i64 (densR l s), H) := by
  refine callV_plain (args' := [sl nb (flG l) l.length, i64 s]) rfl rfl rfl (by simp (disch := omega) only [go_sem, seval]) ?_ rfl
  have r2 := hr.2.1
  obtain ⟨i, k162, g0, g1, g2, g3⟩ := l162 d nb l s hr h0
  by_cases e : (gAt l i).s = s
  · have hda : DensAt l s i := ⟨g0, g1, by omega, fun h => by have := row_lt hr (show 0 ≤ i - 1 by omega) (show i - 1 < i by omega) g1; omega⟩
    have hv := dens_is hr hda
    unfold densV at hv
    rw [if_pos e] at hv
    rw [hv]
    refine den_ex Tryz.func136 rfl Tryz.ntmps136 (by simp) _ Tryz.results136 ?_
    repeat' (first | refine i_seq ?_ | refine k_seq ?_ | refine i_region ?_ | refine l_o ?_ | refine l_nil ?_ | (show RD _ _; refine e_do (by simp (disch := omega) only [go_sem, seval, k162, drop_flG1]; exact IsX.mk) ?_) | refine s_f ?_ | refine f_s ?_ | refine f_n ?_ | refine st2 ?_)
    rfl
  · have hi : i + 1 < l.length := by
      rcases Int.lt_or_le (i + 1) l.length with h | h
      · exact h
      · have e2 : i = (l.length : Int) - 1 := by omega
        have := hr.2.2.2.2
        rw [← e2] at this
        omega
    have g4 := g3 hi
    have hda : DensAt l s (i + 1) := ⟨by omega, hi, by omega, fun h => by rw [show i + 1 - 1 = i by omega]; omega⟩
    have hv := dens_is hr hda
    unfold densV at hv
    rw [if_neg (by omega), show i + 1 - 1 = i by omega] at hv
    rw [hv]
    have w1 := hr.2.2.1 i g0 g1
    have w2 := hr.2.2.1 (i + 1) (by omega) hi
    have w3 := row_lt hr g0 (show i < i + 1 by omega) hi
    simp only [RowOk] at w1 w2
    have k163 := l163 d (gAt l i) (gAt l (i + 1)) s (by omega) w3.1 (by omega) (by omega) (by omega) (by omega) w3.2 (by omega)
    refine den_ex Tryz.func136 rfl Tryz.ntmps136 (by simp) _ Tryz.results136 ?_
    repeat' (first | refine i_seq ?_ | refine k_seq ?_ | refine i_region ?_ | refine l_o ?_ | refine l_nil ?_ | (show RD _ _; refine e_do (by simp (disch := omega) only [go_sem, seval, wr64, k162, k163]; exact IsX.mk) ?_) | refine s_f ?_ | refine f_s ?_ | refine f_n ?_ | refine st2 ?_)
    rfl
open Classical in
theorem l105 (d : Nat) (nb : Bool) (l : List GrD) (a m : Int) (hn : l.length ≤ 1000) (H : Hp) : callV E (den E (d + 3)) 105 [sl nb (flG l) l.length, .agg [i64 a, i64 m]] H = some (i64 (chkR l a m), H) := by
  refine callV_plain (args' := [sl nb (flG l) l.length, .agg [i64 a, i64 m]]) rfl rfl rfl (by simp (disch := omega) only [go_sem, seval]) ?_ rfl
  have k102 := l102 d nb l hn
  by_cases hr : RightP l
  · rw [decide_eq_true hr] at k102
    have k136 := l136 d nb l 10000 hr (by omega) (by omega)
    have db := dens_bd hr (show 0 ≤ (10000 : Int) by omega) (by omega)
    by_cases hb : a < 0 ∨ 10737418240000 < a ∨ m < 0 ∨ 128849018880000 < m
    · have ec : chkR l a m = 2 := by unfold chkR; rw [if_neg (Classical.not_not.2 hr), if_pos hb]
      rw [ec]
      refine den_ex Tryz.func105 rfl Tryz.ntmps105 (by simp) _ Tryz.results105 ?_
      repeat' (first | (first | refine i_seq ?_ | refine k_seq ?_ | refine i_region ?_ | refine l_o ?_ | refine l_nil ?_ | (show RD _ _; refine e_do (by simp (disch := omega) only [go_sem, seval, k102]; exact IsX.mk) ?_) | refine s_f ?_ | refine f_s ?_ | refine f_n ?_ | refine st2 ?_) | (first | refine x2_split (fun h => ?_) (fun h => ?_) | refine q2_split (fun h => ?_) (fun h => ?_)) <;> (try simp only [beq_iff_eq, bne_iff_ne, beq_eq_false_iff_ne, bne_eq_false_iff_eq, ne_eq, decide_eq_true_eq, decide_eq_false_iff_not, gt_iff_lt, ge_iff_le, Bool.not_eq_true', Bool.not_eq_false'] at h))
      all_goals first | rfl | (exfalso; omega)
    · have pb := prod_bd (show 0 ≤ a by omega) (show a ≤ 10737418240000 by omega) (show 0 ≤ densR l 10000 by omega) db.2
      by_cases hc : m * 10000 < a * densR l 10000
      · have ec : chkR l a m = 10 := by unfold chkR; rw [if_neg (Classical.not_not.2 hr), if_neg hb, if_pos hc]
        rw [ec]
        refine den_ex Tryz.func105 rfl Tryz.ntmps105 (by simp) _ Tryz.results105 ?_
        repeat' (first | refine i_seq ?_ | refine k_seq ?_ | refine i_region ?_ | refine l_o ?_ | refine l_nil ?_ | (show RD _ _; refine e_do (by simp (disch := omega) only [go_sem, seval, k102, k136, wr64]; exact IsX.mk) ?_) | refine s_f ?_ | refine f_s ?_ | refine f_n ?_ | refine st2 ?_)
        rfl
      · have ec : chkR l a m = 0 := by unfold chkR; rw [if_neg (Classical.not_not.2 hr), if_neg hb, if_neg hc]
        rw [ec]
        refine den_ex Tryz.func105 rfl Tryz.ntmps105 (by simp) _ Tryz.results105 ?_
        repeat' (first | refine i_seq ?_ | refine k_seq ?_ | refine i_region ?_ | refine l_o ?_ | refine l_nil ?_ | (show RD _ _; refine e_do (by simp (disch := omega) only [go_sem, seval, k102, k136, wr64]; exact IsX.mk) ?_) | refine s_f ?_ | refine f_s ?_ | refine f_n ?_ | refine st2 ?_)
        rfl
  · have ec : chkR l a m = 1 := by unfold chkR; rw [if_pos hr]
    rw [ec]
    rw [decide_eq_false hr] at k102
    refine den_ex Tryz.func105 rfl Tryz.ntmps105 (by simp) _ Tryz.results105 ?_
    repeat' (first | refine i_seq ?_ | refine k_seq ?_ | refine i_region ?_ | refine l_o ?_ | refine l_nil ?_ | (show RD _ _; refine e_do (by simp (disch := omega) only [go_sem, seval, k102]; exact IsX.mk) ?_) | refine s_f ?_ | refine f_s ?_ | refine f_n ?_ | refine st2 ?_)
    rfl
theorem l107 (d : Nat) (nb : Bool) (l : List GrD) (a m : Int) (hr : RightP l) (ha : 0 ≤ a ∧ a ≤ 10737418240000) (hm : 0 ≤ m ∧ m ≤ 128849018880000) (H : Hp) : callV E (den E (d + 3)) 107 [sl nb (flG l) l.length, .agg [i64 a, i64 m]] H = some (i64 (strR l a m), H) := by
  refine callV_plain (args' := [sl nb (flG l) l.length, .agg [i64 a, i64 m]]) rfl rfl rfl (by simp (disch := omega) only [go_sem, seval]) ?_ rfl
  by_cases hm0 : m = 0
  · subst hm0
    rw [str_zero]
    refine den_ex Tryz.func107 rfl Tryz.ntmps107 (by simp) _ Tryz.results107 ?_
    repeat' (first | refine i_seq ?_ | refine k_seq ?_ | refine i_region ?_ | refine l_o ?_ | refine l_nil ?_ | (show RD _ _; refine e_do (by simp (disch := omega) only [go_sem, seval]; exact IsX.mk) ?_) | refine s_f ?_ | refine f_s ?_ | refine f_n ?_ | refine st2 ?_)
    rfl
  · refine den_ex Tryz.func107 rfl Tryz.ntmps107 (by simp) _ Tryz.results107 ?_
    repeat' (first | refine i_seq ?_ | refine k_seq ?_ | refine i_region ?_ | refine l_o ?_ | refine l_nil ?_ | (show RD _ _; refine e_do (by simp (disch := omega) only [go_sem, seval]; exact IsX.mk) ?_) | refine s_f ?_ | refine f_s ?_ | refine f_n ?_ | refine st2 ?_)
    refine i_loop (fun b : Int × Int => upd (upd (upd (upd jk 6 (i64 b.2)) 5 (i64 b.1)) 3 (.op 0 0)) 0 (sl nb (flG l) l.length)) (fun b : Int × Int => [.row ⟨[i64 a, i64 m], 50, 2, true⟩])
      (fun b => (b.2 - b.1).toNat) (fun b => 0 ≤ b.1 ∧ b.1 ≤ b.2 ∧ b.2 ≤ 10000 ∧ m * b.1 ≤ a * densR l b.1 ∧ (b.2 < 10000 → a * densR l (b.2 + 1) < m * (b.2 + 1))) (0, 10000) (by simp only [rounds]; omega) (by simp (disch := omega) only [go_sem, seval]; try rfl) (by simp (disch := omega) only [go_sem, seval]; try rfl) ⟨by simp only; omega, by simp only; omega, by simp only; omega, by
        simp only
        have := Int.mul_nonneg ha.1 (show 0 ≤ densR l 0 by have := dens_bd hr (show 0 ≤ (0 : Int) by omega) (by omega); omega)
        omega, fun h => by simp only at h; omega⟩ ?_
    rintro ⟨x, y⟩ ⟨q1, q2, q3, q4, q5⟩
    simp only at q1 q2 q3 q4 q5
    by_cases hk : x < y
    · have k136 := l136 d nb l ((x + y + 1) / 2) hr (by omega) (by omega)
      have db := dens_bd hr (show 0 ≤ (x + y + 1) / 2 by omega) (by omega)
      have pb := prod_bd ha.1 ha.2 (show 0 ≤ densR l ((x + y + 1) / 2) by omega) db.2
      have pc := prod_bd hm.1 hm.2 (show 0 ≤ (x + y + 1) / 2 by omega) (show (x + y + 1) / 2 ≤ 10000 by omega)
      by_cases e : m * ((x + y + 1) / 2) ≤ a * densR l ((x + y + 1) / 2)
      · repeat' (first | refine i_seq ?_ | refine k_seq ?_ | refine i_region ?_ | refine l_o ?_ | refine l_nil ?_ | (show RD _ _; refine e_do (by simp (disch := omega) only [go_sem, seval, wr64, td, k136]; exact IsX.mk) ?_) | refine s_f ?_ | refine f_s ?_ | refine f_n ?_ | refine st2 ?_)
        refine k_loop ((x + y + 1) / 2, y) (by simp only; omega) (by simp (disch := omega) only [go_sem, seval, wr64]; try rfl) rfl ⟨by simp only; omega, by simp only; omega, q3, e, q5⟩
      · repeat' (first | refine i_seq ?_ | refine k_seq ?_ | refine i_region ?_ | refine l_o ?_ | refine l_nil ?_ | (show RD _ _; refine e_do (by simp (disch := omega) only [go_sem, seval, wr64, td, k136]; exact IsX.mk) ?_) | refine s_f ?_ | refine f_s ?_ | refine f_n ?_ | refine st2 ?_)
        refine k_loop (x, (x + y + 1) / 2 - 1) (by simp only; omega) (by simp (disch := omega) only [go_sem, seval, wr64]; try rfl) rfl ⟨q1, by simp only; omega, by simp only; omega, q4, fun _ => ?_⟩
        simp only
        rw [show (x + y + 1) / 2 - 1 + 1 = (x + y + 1) / 2 by omega]
        omega
    · have : x = y := by omega
      subst this
      have es := str_is hr ha.1 hm.1 hm0 ⟨q1, q3, q4, q5⟩
      repeat' (first | refine i_seq ?_ | refine k_seq ?_ | refine i_region ?_ | refine l_o ?_ | refine l_nil ?_ | (show RD _ _; refine e_do (by simp (disch := omega) only [go_sem, seval]; exact IsX.mk) ?_) | refine s_f ?_ | refine f_s ?_ | refine f_n ?_ | refine st2 ?_)
      rw [es]
end Go.Age
end
section
set_option linter.all false
set_option linter.unusedVariables false
set_option linter.unusedSimpArgs false
set_option maxRecDepth 100000
set_option maxHeartbeats 8000000
attribute [local irreducible] Go.Den.W Go.Den.WL Go.Den.WX Go.Den.WQ Go.Den.QR Go.Den.WG Go.Den.WO Go.Den.WK Go.Den.grows Go.Den.stepOp Go.Den.callV Go.Den.den
namespace Go.Age
open Go.Den Go.Proofs
open Classical in
theorem ready_notR {t : List GrD} {c : CellarD} {id day n : Int} (h : ¬ RightP t) : readyR t c id day n = 1 := by unfold readyR; rw [if_pos h]
theorem ready_errY {t : List GrD} {c : CellarD} {id day n : Int} (hr : RightP t) (h : ¬ errY c id = 0) : readyR t c id day n = errY c id := by
  unfold readyR; rw [if_neg (Classical.not_not.2 hr)]
  split <;> first | omega | rfl
theorem years_eq {c : CellarD} {id day : Int} (h : errY c id = 0) : yearsR c id day = calYears (ygL c id).day day := by simp only [yearsR, h, if_true]
def LastTo (c : CellarD) (sh : List ShD) (tot n : Int) (k : Int) (o : ByteArray) : Prop :=
  (o = ⟨#[]⟩ ∧ ∀ j : Int, 0 ≤ j → j < k → ¬ tot * n ≤ iAt (sumL c sh) j * 10000) ∨ ∃ j : Int, 0 ≤ j ∧ j < k ∧ tot * n ≤ iAt (sumL c sh) j * 10000 ∧ o = alAt (namL c sh) j
theorem last_is {c : CellarD} {id n : Int} {o : ByteArray} (h : errL c id = 0) (hn : 5001 ≤ n) (ho : LastTo c (lotOf c id).sh (lotOf c id).alc n (sumL c (lotOf c id).sh).length o) : orgR c id n = o := by
  obtain ⟨l1, l2, l3, l4, l5⟩ := lot_facts h
  have sf := sum_facts (c := c) l3 l1
  rcases ho with ⟨rfl, h2⟩ | ⟨j, j0, j1, j2, rfl⟩
  · exact org_is ⟨-1, .inl ⟨rfl, fun j j0 j1 => decide_eq_false (h2 j j0 j1)⟩, by rw [if_pos rfl]⟩
  · refine org_is ⟨j, .inr ⟨j0, j1, decide_eq_true j2, fun i i0 i1 => decide_eq_false fun e => ?_⟩, by rw [if_neg (by omega)]⟩
    have := org_uniq (c := c) (sh := (lotOf c id).sh) (tot := (lotOf c id).alc) (by rw [sf.1, l4]) (fun s hs => (sf.2 s hs).1) hn ⟨i0, by omega⟩ ⟨j0, j1⟩ e j2
    omega
open Classical in
theorem l65 (d : Nat) (nb : Bool) (t : List GrD) (c : CellarD) (id day n : Int) (hn : t.length ≤ 1000) (hs : FillsSm c.fills) : ∃ r H1, den E (d + 8) 65 [sl nb (flG t) t.length, .agg c.cells, i64 id, i64 day, i64 n] [] = some (r, H1) ∧
    ((readyR t c id day n = 0 ∧ ∃ p, r = .tup [.agg [i64 (yearsR c id day).1, strC (orgR c id n), i64 (strR t (lotOf c id).alc (lotOf c id).mass), .own p 0 (algL c (lotOf c id).sh).length 1], i64 0] ∧ getR H1 p = some ⟨(algL c (lotOf c id).sh).map strC, 9, 1, true⟩) ∨
     (readyR t c id day n ≠ 0 ∧ r = .tup [.agg [i64 0, strC ⟨#[]⟩, i64 0, nilSl], i64 (readyR t c id day n)])) := by
  have k102 := l102 (d + 5) nb t hn
  by_cases hr : RightP t
  rotate_left
  · rw [decide_eq_false hr] at k102
    have ew := ready_notR (c := c) (id := id) (day := day) (n := n) hr
    rw [ew]
    refine den_of_W Tryz.func65 rfl Tryz.ntmps65 (by simp) _ Tryz.results65 ?_
    repeat' (first | refine i_seq ?_ | refine k_seq ?_ | refine i_region ?_ | refine l_o ?_ | refine l_nil ?_ | (show RD _ _; refine e_do (by simp (disch := omega) only [go_sem, seval, k102]; exact IsX.mk) ?_) | refine s_f ?_ | refine f_s ?_ | refine f_n ?_ | refine st2 ?_)
    exact .inr ⟨by decide, rfl⟩
  · rw [decide_eq_true hr] at k102
    by_cases he : errY c id = 0
    rotate_left
    · have k103 := fun H => c12n d c id H hs he
      rw [ready_errY hr he]
      refine den_of_W Tryz.func65 rfl Tryz.ntmps65 (by simp) _ Tryz.results65 ?_
      repeat' (first | refine i_seq ?_ | refine k_seq ?_ | refine i_region ?_ | refine l_o ?_ | refine l_nil ?_ | (show RD _ _; refine e_do (by simp (disch := omega) only [go_sem, seval, k102, k103]; exact IsX.mk) ?_) | refine s_f ?_ | refine f_s ?_ | refine f_n ?_ | refine st2 ?_)
      exact .inr ⟨he, rfl⟩
    · have k103 := fun H => c12y d c id H hs he
      obtain ⟨e1, e2⟩ := errY_inv he
      obtain ⟨l1, l2, l3, l4, l5⟩ := lot_facts e1
      have hb := (yg_bd he).day
      have ey := years_eq (day := day) he
      by_cases hd : 0 ≤ day ∧ day ≤ 100000
      rotate_left
      · have hd' := isDay_f hd
        have ew : readyR t c id day n = 2 := by
          unfold readyR
          rw [if_neg (Classical.not_not.2 hr), if_neg (by omega), if_neg (by omega)]
          split
          · rfl
          · have : (yearsR c id day).2 = 2 := by rw [ey]; simp [calYears, hd']
            rw [if_pos (by omega), this]
        rw [ew]
        refine den_of_W Tryz.func65 rfl Tryz.ntmps65 (by simp) _ Tryz.results65 ?_
        repeat' (first | refine i_seq ?_ | refine k_seq ?_ | refine i_region ?_ | refine l_o ?_ | refine l_nil ?_ | (show RD _ _; refine e_do (by simp (disch := omega) only [go_sem, seval, k102, k103, hd']; exact IsX.mk) ?_) | refine s_f ?_ | refine f_s ?_ | refine f_n ?_ | refine st2 ?_)
        exact .inr ⟨by decide, rfl⟩
      · have hd' := isDay_t hd
        by_cases hq : n < 5001 ∨ 10000 < n
        · have ew : readyR t c id day n = 2 := by
            unfold readyR
            rw [if_neg (Classical.not_not.2 hr), if_neg (by omega), if_neg (by omega), if_pos hq]
          rw [ew]
          refine den_of_W Tryz.func65 rfl Tryz.ntmps65 (by simp) _ Tryz.results65 ?_
          repeat' (first | (first | refine i_seq ?_ | refine k_seq ?_ | refine i_region ?_ | refine l_o ?_ | refine l_nil ?_ | (show RD _ _; refine e_do (by simp (disch := omega) only [go_sem, seval, k102, k103, hd']; exact IsX.mk) ?_) | refine s_f ?_ | refine f_s ?_ | refine f_n ?_ | refine st2 ?_) | (first | refine x2_split (fun h => ?_) (fun h => ?_) | refine q2_split (fun h => ?_) (fun h => ?_)) <;> (try simp only [beq_iff_eq, bne_iff_ne, beq_eq_false_iff_ne, bne_eq_false_iff_eq, ne_eq, decide_eq_true_eq, decide_eq_false_iff_not, gt_iff_lt, ge_iff_le, Bool.not_eq_true', Bool.not_eq_false'] at h))
          all_goals first | exact .inr ⟨by decide, rfl⟩ | (exfalso; omega)
        · by_cases ho : day < (ygL c id).day
          · have ew : readyR t c id day n = 5 := by
              unfold readyR
              have : (yearsR c id day).2 = 5 := by rw [ey]; simp only [calYears, isDay_t hb, hd', and_self, if_true]; rw [if_neg (by omega)]
              rw [if_neg (Classical.not_not.2 hr), if_neg (by omega), if_neg (by omega), if_neg hq, if_pos (by omega), this]
            rw [ew]
            refine den_of_W Tryz.func65 rfl Tryz.ntmps65 (by simp) _ Tryz.results65 ?_
            repeat' (first | refine i_seq ?_ | refine k_seq ?_ | refine i_region ?_ | refine l_o ?_ | refine l_nil ?_ | (show RD _ _; refine e_do (by simp (disch := omega) only [go_sem, seval, k102, k103, hd']; exact IsX.mk) ?_) | refine s_f ?_ | refine f_s ?_ | refine f_n ?_ | refine st2 ?_)
            exact .inr ⟨by decide, rfl⟩
          · have ey2 : (yearsR c id day).2 = 0 := by rw [ey]; simp only [calYears, isDay_t hb, hd', and_self, if_true]; rw [if_pos (by omega)]
            have k58 := fun H => c44y (d + 1) c id H hs e1
            have k105 := l105 (d + 4) nb t (lotOf c id).alc (lotOf c id).mass hn
            by_cases hc : chkR t (lotOf c id).alc (lotOf c id).mass = 0
            rotate_left
            · have ew : readyR t c id day n = 10 := by
                unfold readyR
                rw [if_neg (Classical.not_not.2 hr), if_neg (by omega), if_neg (by omega), if_neg hq, if_neg (by omega), if_pos hc]
              rw [ew]
              refine den_of_W Tryz.func65 rfl Tryz.ntmps65 (by simp) _ Tryz.results65 ?_
              repeat' (first | refine i_seq ?_ | refine k_seq ?_ | refine i_region ?_ | refine l_o ?_ | refine l_nil ?_ | (show RD _ _; refine e_do (by simp (disch := omega) only [go_sem, seval, k102, k103, hd', k58, k105]; exact IsX.mk) ?_) | refine s_f ?_ | refine f_s ?_ | refine f_n ?_ | refine st2 ?_)
              exact .inr ⟨by decide, rfl⟩
            · rw [hc] at k105
              have ew := ready_of hr he (show 5001 ≤ n ∧ n ≤ 10000 by omega) ey2 hc
              obtain ⟨_, ha, hm, _⟩ := chk_inv hc
              have k107 := l107 (d + 4) nb t (lotOf c id).alc (lotOf c id).mass hr ha hm
              have nl := nam_len c (lotOf c id).sh
              have sl1 : (sumL c (lotOf c id).sh).length = (namL c (lotOf c id).sh).length := by rw [sumL, List.length_map]
              have sf := sum_facts (c := c) l3 l1
              have k61 := cl61 (d + 4) c (lotOf c id) [.row ⟨c.cells, 25, 4, true⟩, .row ⟨[i64 0, strC ⟨#[]⟩, i64 0, nilSl], 40, 4, true⟩, (ygL c id).row, .row ⟨[i64 (ygL c id).id, i64 (ygL c id).cls, i64 (ygL c id).day, strC (ygL c id).org, .own 2 0 (ygL c id).al.length 1], 69, 5, true⟩, (lotOf c id).row, .row ⟨[i64 (lotOf c id).id, i64 (lotOf c id).alc, i64 (lotOf c id).mass, .own 4 0 (lotOf c id).sh.length 2], 53, 4, true⟩] 4 hs l1 l2 rfl
              have k59 := cl59 (d + 4) c (lotOf c id) [.row ⟨c.cells, 25, 4, true⟩, .row ⟨[i64 0, strC ⟨#[]⟩, i64 0, nilSl], 40, 4, true⟩, (ygL c id).row, .row ⟨[i64 (ygL c id).id, i64 (ygL c id).cls, i64 (ygL c id).day, strC (ygL c id).org, .own 2 0 (ygL c id).al.length 1], 69, 5, true⟩, (lotOf c id).row, .row ⟨[i64 (lotOf c id).id, i64 (lotOf c id).alc, i64 (lotOf c id).mass, .own 4 0 (lotOf c id).sh.length 2], 53, 4, true⟩, .row ⟨(algL c (lotOf c id).sh).map strC, 9, 1, true⟩, .row ⟨[i64 (calYears (ygL c id).day day).1, strC ⟨#[]⟩, i64 (strR t (lotOf c id).alc (lotOf c id).mass), .own 6 0 (algL c (lotOf c id).sh).length 1], 40, 4, true⟩] 4 hs l1 l2 rfl
              have p0 : 0 ≤ (lotOf c id).alc * n := Int.mul_nonneg ha.1 (by omega)
              have p1 : (lotOf c id).alc * n ≤ 10737418240000 * 10000 := Int.mul_le_mul ha.2 (by omega) (by omega) (by omega)
              refine den_of_W Tryz.func65 rfl Tryz.ntmps65 (by simp) _ Tryz.results65 ?_
              repeat' (first | refine i_seq ?_ | refine k_seq ?_ | refine i_region ?_ | refine l_o ?_ | refine l_nil ?_ | (show RD _ _; refine e_do (by simp (disch := omega) only [go_sem, seval, k102, k103, hd', k58, k105, k107, k61, k59]; exact IsX.mk) ?_) | refine s_f ?_ | refine f_s ?_ | refine f_n ?_ | refine st2 ?_)
              refine i_loop (fun a : Int × ByteArray => upd (upd (upd (upd (upd (upd (upd jk 21 (i64 a.1)) 20 (.own 9 0 (sumL c (lotOf c id).sh).length 1)) 19 (.own 8 0 (namL c (lotOf c id).sh).length 1)) 18 (.op 7 0)) 14 (.op 5 0)) 10 (.op 1 0)) 4 (i64 n))
                (fun a : Int × ByteArray => [.row ⟨c.cells, 25, 4, true⟩, .row ⟨[i64 0, strC ⟨#[]⟩, i64 0, nilSl], 40, 4, true⟩, (ygL c id).row, .row ⟨[i64 (ygL c id).id, i64 (ygL c id).cls, i64 (ygL c id).day, strC (ygL c id).org, .own 2 0 (ygL c id).al.length 1], 69, 5, true⟩, (lotOf c id).row, .row ⟨[i64 (lotOf c id).id, i64 (lotOf c id).alc, i64 (lotOf c id).mass, .own 4 0 (lotOf c id).sh.length 2], 53, 4, true⟩, .row ⟨(algL c (lotOf c id).sh).map strC, 9, 1, true⟩, .row ⟨[i64 (calYears (ygL c id).day day).1, strC a.2, i64 (strR t (lotOf c id).alc (lotOf c id).mass), .own 6 0 (algL c (lotOf c id).sh).length 1], 40, 4, true⟩, .row ⟨(namL c (lotOf c id).sh).map strC, 9, 1, true⟩, .row ⟨flI (sumL c (lotOf c id).sh), 3, 1, true⟩])
                (fun a => ((sumL c (lotOf c id).sh).length - a.1).toNat) (fun a => 0 ≤ a.1 ∧ a.1 ≤ (sumL c (lotOf c id).sh).length ∧ LastTo c (lotOf c id).sh (lotOf c id).alc n a.1 a.2)
                (0, ⟨#[]⟩) (by simp only [rounds]; omega) (by simp (disch := omega) only [go_sem, seval]; try rfl) (by simp (disch := omega) only [go_sem, seval]; try rfl) ⟨by simp only; omega, by simp only; omega, .inl ⟨rfl, fun j j0 j1 => by simp only at j1; omega⟩⟩ ?_
              rintro ⟨k, o⟩ ⟨q1, q2, q3⟩
              simp only at q1 q2 q3
              by_cases hk : k < (sumL c (lotOf c id).sh).length
              · have s0 := sf.2 _ (iAt_mem ⟨q1, hk⟩)
                by_cases e : (lotOf c id).alc * n ≤ iAt (sumL c (lotOf c id).sh) k * 10000
                · repeat' (first | refine i_seq ?_ | refine k_seq ?_ | refine i_region ?_ | refine l_o ?_ | refine l_nil ?_ | (show RD _ _; refine e_do (by simp (disch := omega) only [go_sem, seval, wr64, Nat.zero_add]; exact IsX.mk) ?_) | refine s_f ?_ | refine f_s ?_ | refine f_n ?_ | refine st2 ?_)
                  refine k_loop (k + 1, alAt (namL c (lotOf c id).sh) k) (by simp only; omega) (by simp (disch := omega) only [go_sem, seval, wr64]; try rfl) rfl ⟨by simp only; omega, by simp only; omega, .inr ⟨k, q1, by simp only; omega, e, rfl⟩⟩
                · repeat' (first | refine i_seq ?_ | refine k_seq ?_ | refine i_region ?_ | refine l_o ?_ | refine l_nil ?_ | (show RD _ _; refine e_do (by simp (disch := omega) only [go_sem, seval, wr64, Nat.zero_add]; exact IsX.mk) ?_) | refine s_f ?_ | refine f_s ?_ | refine f_n ?_ | refine st2 ?_)
                  refine k_loop (k + 1, o) (by simp only; omega) (by simp (disch := omega) only [go_sem, seval, wr64]; try rfl) rfl ⟨by simp only; omega, by simp only; omega, ?_⟩
                  rcases q3 with ⟨h1, h2⟩ | ⟨j, j0, j1, j2, j3⟩
                  · refine .inl ⟨h1, fun j j0 j1 => ?_⟩
                    simp only at j1
                    by_cases ej : j = k
                    · subst ej; exact e
                    · exact h2 j j0 (by omega)
                  · exact .inr ⟨j, j0, by simp only; omega, j2, j3⟩
              · have : k = (sumL c (lotOf c id).sh).length := by omega
                subst this
                have eo := last_is e1 (by omega) q3
                repeat' (first | refine i_seq ?_ | refine k_seq ?_ | refine i_region ?_ | refine l_o ?_ | refine l_nil ?_ | (show RD _ _; refine e_do (by simp (disch := omega) only [go_sem, seval]; exact IsX.mk) ?_) | refine s_f ?_ | refine f_s ?_ | refine f_n ?_ | refine st2 ?_)
                exact .inl ⟨ew, 6, by rw [eo, ey], rfl⟩
section
variable (d : Nat) (nb : Bool) (t : List GrD) (c : CellarD) (id day n : Int) (hn : t.length ≤ 1000) (hs : FillsSm c.fills) (H : Hp)
include hn hs
theorem cl65n (h : readyR t c id day n ≠ 0) : callV E (den E (d + 8)) 65 [sl nb (flG t) t.length, .agg c.cells, i64 id, i64 day, i64 n] H = some (.tup [.agg [i64 0, strC ⟨#[]⟩, i64 0, nilSl], i64 (readyR t c id day n)], H) := by
  obtain ⟨r, H1, h1, h2⟩ := l65 d nb t c id day n hn hs
  rcases h2 with ⟨h2, _⟩ | ⟨_, rfl⟩
  · exact absurd h2 h
  · exact callV_plain (args' := [sl nb (flG t) t.length, .agg c.cells, i64 id, i64 day, i64 n]) rfl rfl rfl (by simp (disch := omega) only [go_sem, seval]) ⟨H1, h1⟩ rfl
theorem cl65y (h : readyR t c id day n = 0) : callV E (den E (d + 8)) 65 [sl nb (flG t) t.length, .agg c.cells, i64 id, i64 day, i64 n] H = some (.tup [.agg [i64 (yearsR c id day).1, strC (orgR c id n), i64 (strR t (lotOf c id).alc (lotOf c id).mass), .own H.length 0 (algL c (lotOf c id).sh).length 1], i64 0], H ++ [.row ⟨(algL c (lotOf c id).sh).map strC, 9, 1, true⟩]) := by
  obtain ⟨r, H1, h1, h2⟩ := l65 d nb t c id day n hn hs
  rcases h2 with ⟨_, p, rfl, h2⟩ | ⟨h2, _⟩
  · rw [callV_data (args' := [sl nb (flG t) t.length, .agg c.cells, i64 id, i64 day, i64 n]) (r' := .tup [.agg [i64 (yearsR c id day).1, strC (orgR c id n), i64 (strR t (lotOf c id).alc (lotOf c id).mass), .fr ((algL c (lotOf c id).sh).map strC) (algL c (lotOf c id).sh).length 9 1], i64 0]) rfl rfl rfl (by simp (disch := omega) only [go_sem, seval]) h1 (by simp (disch := omega) only [go_sem, seval, h2, len_al, Nat.mul_one]) (by simp (disch := omega) only [go_sem, seval])]
    simp (disch := omega) only [go_sem, seval]
  · exact absurd h h2
theorem cl21n (h : readyR t c id day n ≠ 0) : callV E (den E (d + 9)) 21 [sl nb (flG t) t.length, .agg c.cells, i64 id, i64 day, i64 n] H = some (.tup [.agg [i64 0, strC ⟨#[]⟩, i64 0, nilSl], i64 (readyR t c id day n)], H) := by
  have k65 := fun H => cl65n d nb t c id day n hn hs H h
  refine callV_plain (args' := [sl nb (flG t) t.length, .agg c.cells, i64 id, i64 day, i64 n]) rfl rfl rfl (by simp (disch := omega) only [go_sem, seval]) ?_ rfl
  refine den_ex Tryz.func21 rfl Tryz.ntmps21 (by simp) _ Tryz.results21 ?_
  repeat' (first | refine i_seq ?_ | refine k_seq ?_ | refine i_region ?_ | refine l_o ?_ | refine l_nil ?_ | (show RD _ _; refine e_do (by simp (disch := omega) only [go_sem, seval, k65]; exact IsX.mk) ?_) | refine s_f ?_ | refine f_s ?_ | refine f_n ?_ | refine st2 ?_)
  rfl
theorem cl21y (h : readyR t c id day n = 0) : callV E (den E (d + 9)) 21 [sl nb (flG t) t.length, .agg c.cells, i64 id, i64 day, i64 n] H = some (.tup [.agg [i64 (yearsR c id day).1, strC (orgR c id n), i64 (strR t (lotOf c id).alc (lotOf c id).mass), .own H.length 0 (algL c (lotOf c id).sh).length 1], i64 0], H ++ [.row ⟨(algL c (lotOf c id).sh).map strC, 9, 1, true⟩]) := by
  have k65 := fun H => cl65y d nb t c id day n hn hs H h
  have : ∃ r H1, den E (d + 9) 21 [sl nb (flG t) t.length, .agg c.cells, i64 id, i64 day, i64 n] [] = some (r, H1) ∧ ∃ p, r = .tup [.agg [i64 (yearsR c id day).1, strC (orgR c id n), i64 (strR t (lotOf c id).alc (lotOf c id).mass), .own p 0 (algL c (lotOf c id).sh).length 1], i64 0] ∧ getR H1 p = some ⟨(algL c (lotOf c id).sh).map strC, 9, 1, true⟩ := by
    refine den_of_W Tryz.func21 rfl Tryz.ntmps21 (by simp) _ Tryz.results21 ?_
    repeat' (first | refine i_seq ?_ | refine k_seq ?_ | refine i_region ?_ | refine l_o ?_ | refine l_nil ?_ | (show RD _ _; refine e_do (by simp (disch := omega) only [go_sem, seval, k65]; exact IsX.mk) ?_) | refine s_f ?_ | refine f_s ?_ | refine f_n ?_ | refine st2 ?_)
    exact ⟨_, rfl, rfl⟩
  obtain ⟨r, H1, h1, p, rfl, h2⟩ := this
  rw [callV_data (args' := [sl nb (flG t) t.length, .agg c.cells, i64 id, i64 day, i64 n]) (r' := .tup [.agg [i64 (yearsR c id day).1, strC (orgR c id n), i64 (strR t (lotOf c id).alc (lotOf c id).mass), .fr ((algL c (lotOf c id).sh).map strC) (algL c (lotOf c id).sh).length 9 1], i64 0]) rfl rfl rfl (by simp (disch := omega) only [go_sem, seval]) h1 (by simp (disch := omega) only [go_sem, seval, h2, len_al, Nat.mul_one]) (by simp (disch := omega) only [go_sem, seval])]
  simp (disch := omega) only [go_sem, seval]
theorem l24 (x : LabD) (hx : LabSm x) : ∃ H0, den E (d + 9) 24 [sl nb (flG t) t.length, .agg c.cells, i64 id, i64 day, i64 n, .agg x.cells] [] = some (i64 (checkR t c id day n x), H0) := by
  have xl := hx.len
  by_cases hw : readyR t c id day n = 0
  rotate_left
  · have k65 := fun H => cl65n d nb t c id day n hn hs H hw
    have e : checkR t c id day n x = readyR t c id day n := by unfold checkR; rw [if_pos hw]
    rw [e]
    refine den_ex Tryz.func24 rfl Tryz.ntmps24 (by simp) _ Tryz.results24 ?_
    repeat' (first | refine i_seq ?_ | refine k_seq ?_ | refine i_region ?_ | refine l_o ?_ | refine l_nil ?_ | (show RD _ _; refine e_do (by simp (disch := omega) only [go_sem, seval, k65]; exact IsX.mk) ?_) | refine s_f ?_ | refine f_s ?_ | refine f_n ?_ | refine st2 ?_)
    rfl
  · obtain ⟨hr, hy, hnn, hyy, hck⟩ := ready_inv hw
    obtain ⟨a1, a2⟩ := errY_inv hy
    have k65 := fun H => cl65y d nb t c id day n hn hs H hw
    have k68 := fun H => cl68 (d + 6) x H hx
    by_cases hf : formS x = true
    rotate_left
    · have hf := Bool.eq_false_iff.2 hf
      have e : checkR t c id day n x = 3 := by unfold checkR; rw [if_neg (Classical.not_not.2 hw), if_pos hf]
      rw [e]
      rw [hf] at k68
      refine den_ex Tryz.func24 rfl Tryz.ntmps24 (by simp) _ Tryz.results24 ?_
      repeat' (first | refine i_seq ?_ | refine k_seq ?_ | refine i_region ?_ | refine l_o ?_ | refine l_nil ?_ | (show RD _ _; refine e_do (by simp (disch := omega) only [go_sem, seval, k65, k68]; exact IsX.mk) ?_) | refine s_f ?_ | refine f_s ?_ | refine f_n ?_ | refine st2 ?_)
      rfl
    · obtain ⟨u1, u2, u3, u4, u5⟩ := form_str hf
      rw [hf] at k68
      obtain ⟨hsm, hal⟩ := full_sm hw
      have sb := str_bd t (lotOf c id).alc (lotOf c id).mass
      have e : checkR t c id day n x = brkS x (fullD t c id day n) := by unfold checkR; rw [if_neg (Classical.not_not.2 hw), if_neg (by rw [hf]; decide)]
      rw [e]
      generalize hF : fullD t c id day n = f at hsm hal
      have fy : (yearsR c id day).1 = f.y := by rw [← hF]; rfl
      have fo : orgR c id n = f.org := by rw [← hF]; rfl
      have fs : strR t (lotOf c id).alc (lotOf c id).mass = f.str := by rw [← hF]; rfl
      have fa : algL c (lotOf c id).sh = f.al := by rw [← hF]; rfl
      rw [fy, fo, fs, fa] at k65
      rw [fs] at sb
      have k69 : ∀ s H, callV E (den E (d + 8)) 69 [sl x.nilA (x.al.map strC) x.al.length, strC s] H = some (i64 (plN x.al s : Nat), H) := fun s H => callV_plain rfl rfl rfl (by simp (disch := omega) only [go_sem, seval]) (l69 (d + 7) x.nilA x.al s (by omega)) rfl
      have hord : Ord x.al := alp_ord u4
      by_cases b0 : f.y < x.y
      · rw [brk_23 b0]
        refine den_ex Tryz.func24 rfl Tryz.ntmps24 (by simp) _ Tryz.results24 ?_
        repeat' (first | refine i_seq ?_ | refine k_seq ?_ | refine i_region ?_ | refine l_o ?_ | refine l_nil ?_ | (show RD _ _; refine e_do (by simp (disch := omega) only [go_sem, seval, k65, k68]; exact IsX.mk) ?_) | refine s_f ?_ | refine f_s ?_ | refine f_n ?_ | refine st2 ?_)
        rfl
      · by_cases b1 : strEq x.org ⟨#[]⟩ = false ∧ strEq x.org f.org = false
        · obtain ⟨b1, b1'⟩ := b1
          rw [brk_19 (by omega) b1 b1']
          refine den_ex Tryz.func24 rfl Tryz.ntmps24 (by simp) _ Tryz.results24 ?_
          repeat' (first | refine i_seq ?_ | refine k_seq ?_ | refine i_region ?_ | refine l_o ?_ | refine l_nil ?_ | (show RD _ _; refine e_do (by simp (disch := omega) only [go_sem, seval, k65, k68, b1, b1']; exact IsX.mk) ?_) | refine s_f ?_ | refine f_s ?_ | refine f_n ?_ | refine st2 ?_)
          rfl
        · by_cases q1 : strEq x.org ⟨#[]⟩ = true
          · by_cases b2 : 30 < max (x.str - f.str) (f.str - x.str)
            · rw [brk_rest (by omega) (.inl q1), decide_eq_true b2, if_pos rfl]
              refine den_ex Tryz.func24 rfl Tryz.ntmps24 (by simp) _ Tryz.results24 ?_
              repeat' (first | (first | refine i_seq ?_ | refine k_seq ?_ | refine i_region ?_ | refine l_o ?_ | refine l_nil ?_ | (show RD _ _; refine e_do (by simp (disch := omega) only [go_sem, seval, k65, k68, wr64, q1]; exact IsX.mk) ?_) | refine s_f ?_ | refine f_s ?_ | refine f_n ?_ | refine st2 ?_) | (first | refine x2_split (fun h => ?_) (fun h => ?_) | refine q2_split (fun h => ?_) (fun h => ?_)) <;> (try simp only [beq_iff_eq, bne_iff_ne, beq_eq_false_iff_ne, bne_eq_false_iff_eq, ne_eq, decide_eq_true_eq, decide_eq_false_iff_not, gt_iff_lt, ge_iff_le, Bool.not_eq_true', Bool.not_eq_false'] at h))
              all_goals first | rfl | (exfalso; omega)
            · rw [brk_rest (by omega) (.inl q1), decide_eq_false b2, if_neg (by decide)]
              refine den_ex Tryz.func24 rfl Tryz.ntmps24 (by simp) _ Tryz.results24 ?_
              repeat' (first | refine i_seq ?_ | refine k_seq ?_ | refine i_region ?_ | refine l_o ?_ | refine l_nil ?_ | (show RD _ _; refine e_do (by simp (disch := omega) only [go_sem, seval, k65, k68, wr64, q1]; exact IsX.mk) ?_) | refine s_f ?_ | refine f_s ?_ | refine f_n ?_ | refine st2 ?_)
              refine i_loop (fun a : Int => upd (upd (upd jk 15 (i64 a)) 13 (.op 3 0)) 11 (.op 1 0)) (fun a : Int => [.row ⟨c.cells, 25, 4, true⟩, .row ⟨x.cells, 40, 4, true⟩, .row ⟨f.al.map strC, 9, 1, true⟩, .row ⟨[i64 f.y, strC f.org, i64 f.str, .own 2 0 f.al.length 1], 40, 4, true⟩])
                (fun a => (f.al.length - a).toNat) (fun a => 0 ≤ a ∧ a ≤ f.al.length ∧ ∀ j : Int, 0 ≤ j → j < a → alAt f.al j ∈ x.al) 0 (by simp only [rounds]; omega) (by simp (disch := omega) only [go_sem, seval]; try rfl) (by simp (disch := omega) only [go_sem, seval]; try rfl) ⟨by omega, by omega, fun j j0 j1 => by omega⟩ ?_
              rintro k ⟨q1, q2, q3⟩
              by_cases hk : k < f.al.length
              · have k69 := k69 (alAt f.al k)
                have pl := pl_le x.al (alAt f.al k)
                by_cases hm : alAt f.al k ∈ x.al
                · obtain ⟨w1, w2⟩ := pl_at hord hm
                  have w3 : strEq (alAt x.al (plN x.al (alAt f.al k) : Nat)) (alAt f.al k) = true := by rw [w2]; exact strEq_self _
                  repeat' (first | refine i_seq ?_ | refine k_seq ?_ | refine i_region ?_ | refine l_o ?_ | refine l_nil ?_ | (show RD _ _; refine e_do (by simp (disch := omega) only [go_sem, seval, wr64, k69, w3, Nat.zero_add]; exact IsX.mk) ?_) | refine s_f ?_ | refine f_s ?_ | refine f_n ?_ | refine st2 ?_)
                  refine k_loop (k + 1) (by omega) (by simp (disch := omega) only [go_sem, seval, wr64]; try rfl) rfl ⟨by omega, by omega, fun j j0 j1 => ?_⟩
                  by_cases ej : j = k
                  · subst ej; exact hm
                  · exact q3 j j0 (by omega)
                · have hmis : misL f.al x.al = true := misL_iff.2 ⟨_, al_mem ⟨q1, hk⟩, hm⟩
                  rw [if_pos hmis]
                  by_cases w1 : plN x.al (alAt f.al k) = x.al.length
                  · repeat' (first | refine i_seq ?_ | refine k_seq ?_ | refine i_region ?_ | refine l_o ?_ | refine l_nil ?_ | (show RD _ _; refine e_do (by simp (disch := omega) only [go_sem, seval, wr64, k69, w1, Nat.zero_add]; exact IsX.mk) ?_) | refine s_f ?_ | refine f_s ?_ | refine f_n ?_ | refine st2 ?_)
                    rfl
                  · have w3 := pl_not hm (by omega)
                    repeat' (first | refine i_seq ?_ | refine k_seq ?_ | refine i_region ?_ | refine l_o ?_ | refine l_nil ?_ | (show RD _ _; refine e_do (by simp (disch := omega) only [go_sem, seval, wr64, k69, w3, Nat.zero_add]; exact IsX.mk) ?_) | refine s_f ?_ | refine f_s ?_ | refine f_n ?_ | refine st2 ?_)
                    rfl
              · have : k = f.al.length := by omega
                subst this
                have hmis : misL f.al x.al = false := misL_f fun a ha => by
                  obtain ⟨i, hi, rfl⟩ := List.mem_iff_getElem.1 ha
                  have := q3 i (by omega) (by omega)
                  have e2 : alAt f.al (i : Int) = f.al[i] := by simp [alAt, List.getD, hi]
                  rwa [e2] at this
                rw [if_neg (by rw [hmis]; decide)]
                repeat' (first | refine i_seq ?_ | refine k_seq ?_ | refine i_region ?_ | refine l_o ?_ | refine l_nil ?_ | (show RD _ _; refine e_do (by simp (disch := omega) only [go_sem, seval]; exact IsX.mk) ?_) | refine s_f ?_ | refine f_s ?_ | refine f_n ?_ | refine st2 ?_)
                rfl
          · have q1 := Bool.eq_false_iff.2 q1
            have q2 : strEq x.org f.org = true := Classical.not_not.1 fun e => b1 ⟨q1, Bool.eq_false_iff.2 e⟩
            by_cases b2 : 30 < max (x.str - f.str) (f.str - x.str)
            · rw [brk_rest (by omega) (.inr q2), decide_eq_true b2, if_pos rfl]
              refine den_ex Tryz.func24 rfl Tryz.ntmps24 (by simp) _ Tryz.results24 ?_
              repeat' (first | (first | refine i_seq ?_ | refine k_seq ?_ | refine i_region ?_ | refine l_o ?_ | refine l_nil ?_ | (show RD _ _; refine e_do (by simp (disch := omega) only [go_sem, seval, k65, k68, wr64, q1, q2]; exact IsX.mk) ?_) | refine s_f ?_ | refine f_s ?_ | refine f_n ?_ | refine st2 ?_) | (first | refine x2_split (fun h => ?_) (fun h => ?_) | refine q2_split (fun h => ?_) (fun h => ?_)) <;> (try simp only [beq_iff_eq, bne_iff_ne, beq_eq_false_iff_ne, bne_eq_false_iff_eq, ne_eq, decide_eq_true_eq, decide_eq_false_iff_not, gt_iff_lt, ge_iff_le, Bool.not_eq_true', Bool.not_eq_false'] at h))
              all_goals first | rfl | (exfalso; omega)
            · rw [brk_rest (by omega) (.inr q2), decide_eq_false b2, if_neg (by decide)]
              refine den_ex Tryz.func24 rfl Tryz.ntmps24 (by simp) _ Tryz.results24 ?_
              repeat' (first | refine i_seq ?_ | refine k_seq ?_ | refine i_region ?_ | refine l_o ?_ | refine l_nil ?_ | (show RD _ _; refine e_do (by simp (disch := omega) only [go_sem, seval, k65, k68, wr64, q1, q2]; exact IsX.mk) ?_) | refine s_f ?_ | refine f_s ?_ | refine f_n ?_ | refine st2 ?_)
              refine i_loop (fun a : Int => upd (upd (upd jk 15 (i64 a)) 13 (.op 3 0)) 11 (.op 1 0)) (fun a : Int => [.row ⟨c.cells, 25, 4, true⟩, .row ⟨x.cells, 40, 4, true⟩, .row ⟨f.al.map strC, 9, 1, true⟩, .row ⟨[i64 f.y, strC f.org, i64 f.str, .own 2 0 f.al.length 1], 40, 4, true⟩])
                (fun a => (f.al.length - a).toNat) (fun a => 0 ≤ a ∧ a ≤ f.al.length ∧ ∀ j : Int, 0 ≤ j → j < a → alAt f.al j ∈ x.al) 0 (by simp only [rounds]; omega) (by simp (disch := omega) only [go_sem, seval]; try rfl) (by simp (disch := omega) only [go_sem, seval]; try rfl) ⟨by omega, by omega, fun j j0 j1 => by omega⟩ ?_
              rintro k ⟨q1, q2, q3⟩
              by_cases hk : k < f.al.length
              · have k69 := k69 (alAt f.al k)
                have pl := pl_le x.al (alAt f.al k)
                by_cases hm : alAt f.al k ∈ x.al
                · obtain ⟨w1, w2⟩ := pl_at hord hm
                  have w3 : strEq (alAt x.al (plN x.al (alAt f.al k) : Nat)) (alAt f.al k) = true := by rw [w2]; exact strEq_self _
                  repeat' (first | refine i_seq ?_ | refine k_seq ?_ | refine i_region ?_ | refine l_o ?_ | refine l_nil ?_ | (show RD _ _; refine e_do (by simp (disch := omega) only [go_sem, seval, wr64, k69, w3, Nat.zero_add]; exact IsX.mk) ?_) | refine s_f ?_ | refine f_s ?_ | refine f_n ?_ | refine st2 ?_)
                  refine k_loop (k + 1) (by omega) (by simp (disch := omega) only [go_sem, seval, wr64]; try rfl) rfl ⟨by omega, by omega, fun j j0 j1 => ?_⟩
                  by_cases ej : j = k
                  · subst ej; exact hm
                  · exact q3 j j0 (by omega)
                · have hmis : misL f.al x.al = true := misL_iff.2 ⟨_, al_mem ⟨q1, hk⟩, hm⟩
                  rw [if_pos hmis]
                  by_cases w1 : plN x.al (alAt f.al k) = x.al.length
                  · repeat' (first | refine i_seq ?_ | refine k_seq ?_ | refine i_region ?_ | refine l_o ?_ | refine l_nil ?_ | (show RD _ _; refine e_do (by simp (disch := omega) only [go_sem, seval, wr64, k69, w1, Nat.zero_add]; exact IsX.mk) ?_) | refine s_f ?_ | refine f_s ?_ | refine f_n ?_ | refine st2 ?_)
                    rfl
                  · have w3 := pl_not hm (by omega)
                    repeat' (first | refine i_seq ?_ | refine k_seq ?_ | refine i_region ?_ | refine l_o ?_ | refine l_nil ?_ | (show RD _ _; refine e_do (by simp (disch := omega) only [go_sem, seval, wr64, k69, w3, Nat.zero_add]; exact IsX.mk) ?_) | refine s_f ?_ | refine f_s ?_ | refine f_n ?_ | refine st2 ?_)
                    rfl
              · have : k = f.al.length := by omega
                subst this
                have hmis : misL f.al x.al = false := misL_f fun a ha => by
                  obtain ⟨i, hi, rfl⟩ := List.mem_iff_getElem.1 ha
                  have := q3 i (by omega) (by omega)
                  have e2 : alAt f.al (i : Int) = f.al[i] := by simp [alAt, List.getD, hi]
                  rwa [e2] at this
                rw [if_neg (by rw [hmis]; decide)]
                repeat' (first | refine i_seq ?_ | refine k_seq ?_ | refine i_region ?_ | refine l_o ?_ | refine l_nil ?_ | (show RD _ _; refine e_do (by simp (disch := omega) only [go_sem, seval]; exact IsX.mk) ?_) | refine s_f ?_ | refine f_s ?_ | refine f_n ?_ | refine st2 ?_)
                rfl
end
end Go.Age
end
section
set_option linter.all false
set_option linter.unusedVariables false
set_option linter.unusedSimpArgs false
set_option maxRecDepth 100000
set_option maxHeartbeats 8000000
attribute [local irreducible] Go.Den.W Go.Den.WL Go.Den.WX Go.Den.WQ Go.Den.QR Go.Den.WG Go.Den.WO Go.Den.WK Go.Den.grows Go.Den.stepOp Go.Den.callV Go.Den.den
namespace Go.Age
open Go.Den Go.Proofs
theorem l4 (nb : Bool) (t : List GrD) (c : CellarD) (id day n : Int) (x : LabD) : ∃ H1, den E 25 4 [sl nb (flG t) t.length, .agg c.cells, i64 id, i64 day, i64 n, .agg x.cells] [] = some (bl true, H1) := by
  have k10 := cl10
  obtain ⟨x1, H1, k11, r, rfl, hr⟩ := f10 21 c
  have k11 : ∀ H, callV E (den E 24) 11 [.agg c.cells] H = some (bl r, H) := fun H => callV_plain rfl rfl rfl (by simp (disch := omega) only [go_sem, seval]) ⟨H1, k11⟩ rfl
  have k18 : ∀ H, callV E (den E 24) 18 [sl nb (flG t) t.length] H = some (bl (decide (t.length ≤ 20 ∨ (128 < t.length ∧ t.length ≤ 133))), H) := fun H => callV_plain rfl rfl rfl (by simp (disch := omega) only [go_sem, seval]) (l18 23 nb t) rfl
  obtain ⟨x2, H2, k19, r2, rfl, hr2⟩ := l19 23 x
  have k19 : ∀ H, callV E (den E 24) 19 [.agg x.cells] H = some (bl r2, H) := fun H => callV_plain rfl rfl rfl (by simp (disch := omega) only [go_sem, seval]) ⟨H2, k19⟩ rfl
  by_cases ht : t.length ≤ 20 ∨ (128 < t.length ∧ t.length ≤ 133)
  rotate_left
  · rw [decide_eq_false ht] at k18
    refine den_ex Tryz.func4 rfl Tryz.ntmps4 (by simp) _ Tryz.results4 ?_
    repeat' (first | refine i_seq ?_ | refine k_seq ?_ | refine i_region ?_ | refine l_o ?_ | refine l_nil ?_ | (show RD _ _; refine e_do (by simp (disch := omega) only [go_sem, seval, k10, k18]; exact IsX.mk) ?_) | refine s_f ?_ | refine f_s ?_ | refine f_n ?_ | refine st2 ?_)
    rfl
  · rw [decide_eq_true ht] at k18
    cases r
    · refine den_ex Tryz.func4 rfl Tryz.ntmps4 (by simp) _ Tryz.results4 ?_
      repeat' (first | refine i_seq ?_ | refine k_seq ?_ | refine i_region ?_ | refine l_o ?_ | refine l_nil ?_ | (show RD _ _; refine e_do (by simp (disch := omega) only [go_sem, seval, k10, k11, k18]; exact IsX.mk) ?_) | refine s_f ?_ | refine f_s ?_ | refine f_n ?_ | refine st2 ?_)
      rfl
    · have hs := hr rfl
      cases r2
      · refine den_ex Tryz.func4 rfl Tryz.ntmps4 (by simp) _ Tryz.results4 ?_
        repeat' (first | refine i_seq ?_ | refine k_seq ?_ | refine i_region ?_ | refine l_o ?_ | refine l_nil ?_ | (show RD _ _; refine e_do (by simp (disch := omega) only [go_sem, seval, k10, k11, k18, k19]; exact IsX.mk) ?_) | refine s_f ?_ | refine f_s ?_ | refine f_n ?_ | refine st2 ?_)
        rfl
      · obtain ⟨hx, hxl⟩ := hr2 rfl
        have hn : t.length ≤ 1000 := by omega
        have k23 : ∀ H, callV E (den E 24) 23 [sl nb (flG t) t.length, .agg c.cells, i64 id, i64 day, i64 n, .agg x.cells] H = some (i64 (checkR t c id day n x), H) := fun H => callV_plain rfl rfl rfl (by simp (disch := omega) only [go_sem, seval]) (l23 3 nb t c id day n x hn hs hx) rfl
        have k24 : ∀ H, callV E (den E 24) 24 [sl nb (flG t) t.length, .agg c.cells, i64 id, i64 day, i64 n, .agg x.cells] H = some (i64 (checkR t c id day n x), H) := fun H => callV_plain rfl rfl rfl (by simp (disch := omega) only [go_sem, seval]) (l24 15 nb t c id day n hn hs x hx) rfl
        by_cases hw : readyR t c id day n = 0
        rotate_left
        · have k20 := fun H => cl20n 4 nb t c id day n hn hs H hw
          have k21 := fun H => cl21n 15 nb t c id day n hn hs H hw
          have hz : ∀ H : Hp, SnL H nilSl [] := fun H => (HasL.snl (.inl ⟨rfl, rfl⟩))
          have k22 := fun H => cl22s 22 0 0 ⟨#[]⟩ [] (H := H) (by simp) (hz H) (hz H)
          refine den_ex Tryz.func4 rfl Tryz.ntmps4 (by simp) _ Tryz.results4 ?_
          repeat' (first | refine i_seq ?_ | refine k_seq ?_ | refine i_region ?_ | refine l_o ?_ | refine l_nil ?_ | (show RD _ _; refine e_do (by simp (disch := omega) only [go_sem, seval, k10, k11, k18, k19, k20, k21, k22, k23, k24]; exact IsX.mk) ?_) | refine s_f ?_ | refine f_s ?_ | refine f_n ?_ | refine st2 ?_)
          rfl
        · obtain ⟨hrt, hy, hnn, hyy, hck⟩ := ready_inv hw
          obtain ⟨a1, a2⟩ := errY_inv hy
          have hal := alg_512 a1
          obtain ⟨v, G, k20, hv⟩ := cl20h 4 nb t c id day n hn hs [.row ⟨c.cells, 25, 4, true⟩, .row ⟨x.cells, 40, 4, true⟩] hw
          obtain ⟨v2, v3⟩ := hv.lf
          have k21 := fun H => cl21y 15 nb t c id day n hn hs H hw
          generalize algL c (lotOf c id).sh = al at k20 k21 hv hal
          generalize (yearsR c id day).1 = y at k20 k21
          generalize orgR c id n = o at k20 k21
          generalize strR t (lotOf c id).alc (lotOf c id).mass = s at k20 k21
          have k22 := fun T => cl22s 22 y s o al (H := (.row ⟨c.cells, 25, 4, true⟩ :: .row ⟨x.cells, 40, 4, true⟩ :: G) ++ (.row ⟨[i64 y, strC o, i64 s, v], 40, 4, true⟩ :: .row ⟨al.map strC, 9, 1, true⟩ :: T)) (v' := .own (G.length + 1 + 1 + 1) 0 al.length 1) (by omega) (hv.old _).snl (HasL.snl (.inr ⟨_, rfl, by simp (disch := omega) only [go_sem, seval]⟩))
          simp only [List.cons_append, List.nil_append] at k22
          refine den_ex Tryz.func4 rfl Tryz.ntmps4 (by simp) _ Tryz.results4 ?_
          repeat' (first | refine i_seq ?_ | refine k_seq ?_ | refine i_region ?_ | refine l_o ?_ | refine l_nil ?_ | (show RD _ _; refine e_do (by simp (disch := omega) only [go_sem, seval, k10, k11, k18, k19, k20, k21, k22, k23, k24, v2, v3]; exact IsX.mk) ?_) | refine s_f ?_ | refine f_s ?_ | refine f_n ?_ | refine st2 ?_)
          rfl
end Go.Age
end
