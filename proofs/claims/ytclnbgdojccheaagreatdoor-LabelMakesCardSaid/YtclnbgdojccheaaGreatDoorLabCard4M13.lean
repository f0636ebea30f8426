/- Part of the proof of LabelMakesCardSaid. -/
import Derived.Test.YtclnbgdojccheaaGreatDoorLabCard4M11
section
set_option linter.all false
set_option linter.unusedVariables false
set_option linter.unusedSimpArgs false
set_option maxRecDepth 100000
set_option maxHeartbeats 4000000
attribute [local irreducible] Go.Den.W Go.Den.WL Go.Den.WX Go.Den.WQ Go.Den.QR Go.Den.WG Go.Den.WO Go.Den.WK Go.Den.grows Go.Den.stepOp Go.Den.callV Go.Den.den
namespace Go.Age
open Go.Den Go.Proofs
def plainS (a m : Int) : Bool := decide (0 ≤ a ∧ a ≤ 10737418240000 ∧ 0 ≤ m ∧ m ≤ 128849018880000 ∧ (0 < m ∨ a = 0))
theorem plain_t {a m : Int} (h : 0 ≤ a ∧ a ≤ 10737418240000 ∧ 0 ≤ m ∧ m ≤ 128849018880000 ∧ (0 < m ∨ a = 0)) : plainS a m = true := by simp [plainS]; omega
theorem plain_f {a m : Int} (h : ¬ (0 ≤ a ∧ a ≤ 10737418240000 ∧ 0 ≤ m ∧ m ≤ 128849018880000 ∧ (0 < m ∨ a = 0))) : plainS a m = false := by simp only [plainS, decide_eq_false h]
theorem f133 (d : Nat) (a m : Int) : ∃ H0, den E (d + 1) 242 [.agg [i64 a, i64 m]] [] = some (bl (plainS a m), H0) := by
  refine den_ex Tryz.func242 rfl Tryz.ntmps242 (by simp) _ Tryz.results242 ?_
  repeat' (first | (first | refine i_seq ?_ | refine k_seq ?_ | refine i_region ?_ | refine l_o ?_ | refine l_nil ?_ | (show RD _ _; refine e_do (by simp (disch := omega) only [go_sem, seval]; exact IsX.mk) ?_) | refine s_f ?_ | refine f_s ?_ | refine f_n ?_ | refine st2 ?_) | (first | refine x2_split (fun h => ?_) (fun h => ?_) | refine q2_split (fun h => ?_) (fun h => ?_)) <;> (try simp only [beq_iff_eq, bne_iff_ne, beq_eq_false_iff_ne, bne_eq_false_iff_eq, ne_eq, decide_eq_true_eq, decide_eq_false_iff_not, gt_iff_lt, ge_iff_le, Bool.not_eq_true', Bool.not_eq_false'] at h))
  all_goals refine bl_congr ?_
  all_goals first
    | (symm; first | exact plain_t (by omega) | exact plain_f (by omega))
    | (by_cases e : a = 0
       · rw [plain_t (by omega)]; simp [e]
       · rw [plain_f (by omega)]; simp [e])
@[go_sem] theorem c133 (d : Nat) (a m : Int) (H : Hp) : callV E (den E (d + 1)) 242 [.agg [i64 a, i64 m]] H = some (bl (plainS a m), H) := callV_plain rfl rfl rfl (by simp (disch := omega) only [go_sem, seval]) (f133 d a m) rfl
theorem f152 (d : Nat) (a m : Int) : ∃ H0, den E (d + 1) 222 [.agg [i64 a, i64 m]] [] = some (bl (plainS a m), H0) := by
  refine den_ex Tryz.func222 rfl Tryz.ntmps222 (by simp) _ Tryz.results222 ?_
  repeat' (first | (first | refine i_seq ?_ | refine k_seq ?_ | refine i_region ?_ | refine l_o ?_ | refine l_nil ?_ | (show RD _ _; refine e_do (by simp (disch := omega) only [go_sem, seval]; exact IsX.mk) ?_) | refine s_f ?_ | refine f_s ?_ | refine f_n ?_ | refine st2 ?_) | (first | refine x2_split (fun h => ?_) (fun h => ?_) | refine q2_split (fun h => ?_) (fun h => ?_)) <;> (try simp only [beq_iff_eq, bne_iff_ne, beq_eq_false_iff_ne, bne_eq_false_iff_eq, ne_eq, decide_eq_true_eq, decide_eq_false_iff_not, gt_iff_lt, ge_iff_le, Bool.not_eq_true', Bool.not_eq_false'] at h))
  all_goals refine bl_congr ?_
  all_goals first
    | (symm; first | exact plain_t (by omega) | exact plain_f (by omega))
    | (by_cases e : a = 0
       · rw [plain_t (by omega)]; simp [e]
       · rw [plain_f (by omega)]; simp [e])
@[go_sem] theorem c152 (d : Nat) (a m : Int) (H : Hp) : callV E (den E (d + 1)) 222 [.agg [i64 a, i64 m]] H = some (bl (plainS a m), H) := callV_plain rfl rfl rfl (by simp (disch := omega) only [go_sem, seval]) (f152 d a m) rfl
theorem f132 (d : Nat) (a m : Int) : ∃ H0, den E (d + 2) 241 [.agg [i64 a, i64 m]] [] = some (bl (!plainS a m), H0) := by
  refine den_ex Tryz.func241 rfl Tryz.ntmps241 (by simp) _ Tryz.results241 ?_
  repeat' (first | refine i_seq ?_ | refine k_seq ?_ | refine i_region ?_ | refine l_o ?_ | refine l_nil ?_ | (show RD _ _; refine e_do (by simp (disch := omega) only [go_sem, seval]; exact IsX.mk) ?_) | refine s_f ?_ | refine f_s ?_ | refine f_n ?_ | refine st2 ?_)
  rfl
@[go_sem] theorem c132 (d : Nat) (a m : Int) (H : Hp) : callV E (den E (d + 2)) 241 [.agg [i64 a, i64 m]] H = some (bl (!plainS a m), H) := callV_plain rfl rfl rfl (by simp (disch := omega) only [go_sem, seval]) (f132 d a m) rfl
theorem f157 (d : Nat) (a m : Int) (H : Hp) : den E (d + 3) 254 [.ro [i64 a, i64 m] 1, .fn 241 []] H = some (i64 (if plainS a m = true then -1 else 0), H) := by
  refine den_eq Tryz.func254 rfl Tryz.ntmps254 (by simp) _ Tryz.results254 ?_
  repeat' (first | refine i_seq ?_ | refine k_seq ?_ | refine i_region ?_ | refine l_o ?_ | refine l_nil ?_ | (show RD _ _; refine e_do (by simp (disch := omega) only [go_sem, seval]; exact IsX.mk) ?_) | refine s_f ?_ | refine f_s ?_ | refine f_n ?_ | refine st2 ?_)
  refine i_loop (fun i => upd (upd (upd (upd jk 8 (i64 i)) 7 (i64 1)) 1 (.fn 241 [])) 0 (.ro [i64 a, i64 m] 1)) (fun i : Int => H)
    (fun i => (2 - i).toNat) (fun i => i = 0 ∨ (i = 1 ∧ plainS a m = true)) 0 (by simp only [rounds]; omega) (by simp (disch := omega) only [go_sem, seval]; try rfl) (by simp (disch := omega) only [go_sem, seval]) (.inl rfl) ?_
  intro i hi
  rcases hi with rfl | ⟨rfl, hp⟩
  · by_cases hp : plainS a m = true
    · repeat' (first | refine i_seq ?_ | refine k_seq ?_ | refine i_region ?_ | refine l_o ?_ | refine l_nil ?_ | (show RD _ _; refine e_do (by simp (disch := omega) only [go_sem, seval, hp]; exact IsX.mk) ?_) | refine s_f ?_ | refine f_s ?_ | refine f_n ?_ | refine st2 ?_)
      exact k_loop 1 (by omega) (by simp (disch := omega) only [go_sem, seval, wr64]) rfl (.inr ⟨rfl, hp⟩)
    · have hp' := Bool.eq_false_iff.2 hp
      repeat' (first | refine i_seq ?_ | refine k_seq ?_ | refine i_region ?_ | refine l_o ?_ | refine l_nil ?_ | (show RD _ _; refine e_do (by simp (disch := omega) only [go_sem, seval, hp']; exact IsX.mk) ?_) | refine s_f ?_ | refine f_s ?_ | refine f_n ?_ | refine st2 ?_)
      simp [hp']
  · repeat' (first | refine i_seq ?_ | refine k_seq ?_ | refine i_region ?_ | refine l_o ?_ | refine l_nil ?_ | (show RD _ _; refine e_do (by simp (disch := omega) only [go_sem, seval, hp]; exact IsX.mk) ?_) | refine s_f ?_ | refine f_s ?_ | refine f_n ?_ | refine st2 ?_)
    simp [hp]
@[go_sem] theorem c157 (d : Nat) (a m : Int) (H : Hp) : callV E (den E (d + 3)) 254 [.ro [i64 a, i64 m] 1, .fn 241 []] H = some (i64 (if plainS a m = true then -1 else 0), H) := by
  simp only [f157, callV, show E.prim 254 = none from rfl, show E.inl 254 = true from rfl, if_true]
theorem f131 (d : Nat) (a m : Int) (H : Hp) : den E (d + 4) 240 [.ro [i64 a, i64 m] 1, .fn 241 []] H = some (bl (!plainS a m), H) := by
  refine den_eq Tryz.func240 rfl Tryz.ntmps240 (by simp) _ Tryz.results240 ?_
  by_cases hp : plainS a m = true
  · repeat' (first | refine i_seq ?_ | refine k_seq ?_ | refine i_region ?_ | refine l_o ?_ | refine l_nil ?_ | (show RD _ _; refine e_do (by simp (disch := omega) only [go_sem, seval, hp]; exact IsX.mk) ?_) | refine s_f ?_ | refine f_s ?_ | refine f_n ?_ | refine st2 ?_)
    simp [hp]
  · have hp' := Bool.eq_false_iff.2 hp
    repeat' (first | refine i_seq ?_ | refine k_seq ?_ | refine i_region ?_ | refine l_o ?_ | refine l_nil ?_ | (show RD _ _; refine e_do (by simp (disch := omega) only [go_sem, seval, hp', Bool.false_eq_true]; exact IsX.mk) ?_) | refine s_f ?_ | refine f_s ?_ | refine f_n ?_ | refine st2 ?_)
    simp [hp']
@[go_sem] theorem c131 (d : Nat) (a m : Int) (H : Hp) : callV E (den E (d + 4)) 240 [.ro [i64 a, i64 m] 1, .fn 241 []] H = some (bl (!plainS a m), H) := by
  simp only [f131, callV, show E.prim 240 = none from rfl, show E.inl 240 = true from rfl, if_true]
theorem f134 (d : Nat) (a m : Int) (hp : plainS a m = true) : ∃ H0, den E (d + 1) 243 [.ro [i64 a, i64 m] 1] [] = some (.agg [i64 a, i64 m], H0) := by
  refine den_ex Tryz.func243 rfl Tryz.ntmps243 (by simp) _ Tryz.results243 ?_
  simp only [plainS, decide_eq_true_eq] at hp
  repeat' (first | refine i_seq ?_ | refine k_seq ?_ | refine i_region ?_ | refine l_o ?_ | refine l_nil ?_ | (show RD _ _; refine e_do (by simp (disch := omega) only [go_sem, seval]; exact IsX.mk) ?_) | refine s_f ?_ | refine f_s ?_ | refine f_n ?_ | refine st2 ?_)
  refine i_loop (fun b : Bool => upd (upd (upd (upd (upd jk 8 (i64 (if b then 1 else 0))) 7 (i64 1)) 6 (.ro [i64 a, i64 m] 1)) 3 (.op 1 0)) 2 (.op 0 0)) (fun b : Bool => .row ⟨[i64 0, i64 0], 50, 2, true⟩ :: (if b then [.row ⟨[i64 a, i64 m], 271, 2, true⟩, .row ⟨[i64 a, i64 m], 50, 2, true⟩] else [.row ⟨[i64 0, i64 0], 271, 2, true⟩]))
    (fun b => if b then 0 else 1) (fun b => True) false (by decide) (by simp (disch := omega) only [go_sem, seval, Bool.false_eq_true]; try rfl) (by simp (disch := omega) only [go_sem, seval, Bool.false_eq_true]) trivial ?_
  intro b _
  cases b
  · repeat' (first | refine i_seq ?_ | refine k_seq ?_ | refine i_region ?_ | refine l_o ?_ | refine l_nil ?_ | (show RD _ _; refine e_do (by simp (disch := omega) only [go_sem, seval, wr64, Int.zero_add, Bool.false_eq_true]; exact IsX.mk) ?_) | refine s_f ?_ | refine f_s ?_ | refine f_n ?_ | refine st2 ?_)
    refine i_drawd [(19, 22)] (by decide +kernel) ?_
    repeat' (first | refine i_seq ?_ | refine k_seq ?_ | refine i_region ?_ | refine l_o ?_ | refine l_nil ?_ | (show RD _ _; refine e_do (by simp (disch := omega) only [go_sem, seval, wr64, Int.zero_add, Bool.false_eq_true]; exact IsX.mk) ?_) | refine s_f ?_ | refine f_s ?_ | refine f_n ?_ | refine st2 ?_)
    exact k_loop true (by decide) (by simp (disch := omega) only [go_sem, seval, wr64]) (by simp (disch := omega) only [go_sem, seval, Bool.false_eq_true]) trivial
  · repeat' (first | refine i_seq ?_ | refine k_seq ?_ | refine i_region ?_ | refine l_o ?_ | refine l_nil ?_ | (show RD _ _; refine e_do (by simp (disch := omega) only [go_sem, seval, wr64]; exact IsX.mk) ?_) | refine s_f ?_ | refine f_s ?_ | refine f_n ?_ | refine st2 ?_)
    rfl
@[go_sem] theorem c134 (d : Nat) (a m : Int) (H : Hp) (hp : plainS a m = true) : callV E (den E (d + 1)) 243 [.ro [i64 a, i64 m] 1] H = some (.agg [i64 a, i64 m], H) := callV_plain rfl rfl rfl (by simp (disch := omega) only [go_sem, seval]) (f134 d a m hp) rfl
theorem f117 (d : Nat) (a m : Int) : ∃ H0, den E (d + 5) 230 [.ro [i64 a, i64 m] 1] [] = some (.tup [if plainS a m = true then .agg [i64 a, i64 m] else .agg [i64 0, i64 0], i64 (if plainS a m = true then 0 else 1)], H0) := by
  refine den_ex Tryz.func230 rfl Tryz.ntmps230 (by simp) _ Tryz.results230 ?_
  by_cases hp : plainS a m = true
  · have c := c134 (d + 3) a m
    repeat' (first | refine i_seq ?_ | refine k_seq ?_ | refine i_region ?_ | refine l_o ?_ | refine l_nil ?_ | (show RD _ _; refine e_do (by simp (disch := omega) only [go_sem, seval, hp, c]; exact IsX.mk) ?_) | refine s_f ?_ | refine f_s ?_ | refine f_n ?_ | refine st2 ?_)
    simp [hp]
  · have hp' := Bool.eq_false_iff.2 hp
    repeat' (first | refine i_seq ?_ | refine k_seq ?_ | refine i_region ?_ | refine l_o ?_ | refine l_nil ?_ | (show RD _ _; refine e_do (by simp (disch := omega) only [go_sem, seval, hp', Bool.false_eq_true]; exact IsX.mk) ?_) | refine s_f ?_ | refine f_s ?_ | refine f_n ?_ | refine st2 ?_)
    simp [hp']
theorem c117 (d : Nat) (a m : Int) (H : Hp) (id : Nat) (h : getR H id = some ⟨[i64 a, i64 m], 50, 2, true⟩) : callV E (den E (d + 5)) 230 [.own id 0 1 2] H = some (.tup [if plainS a m = true then .agg [i64 a, i64 m] else .agg [i64 0, i64 0], i64 (if plainS a m = true then 0 else 1)], H) := by
  refine callV_plain (args' := [.ro [i64 a, i64 m] 1]) rfl rfl rfl (by simp (disch := omega) only [go_sem, seval, h]) (f117 d a m) ?_
  split <;> rfl
theorem f127 (d : Nat) (a m : Int) : ∃ H0, den E (d + 6) 208 [.agg [i64 a, i64 m]] [] = some (bl (plainS a m), H0) := by
  refine den_ex Tryz.func208 rfl Tryz.ntmps208 (by simp) _ Tryz.results208 ?_
  have c := c117 d a m [.row ⟨[i64 a, i64 m], 50, 2, true⟩, .row ⟨[i64 a, i64 m], 50, 2, true⟩] 1 rfl
  by_cases hp : plainS a m = true
  · repeat' (first | refine i_seq ?_ | refine k_seq ?_ | refine i_region ?_ | refine l_o ?_ | refine l_nil ?_ | (show RD _ _; refine e_do (by simp (disch := omega) only [go_sem, seval, c, hp]; exact IsX.mk) ?_) | refine s_f ?_ | refine f_s ?_ | refine f_n ?_ | refine st2 ?_)
    simp [hp]
  · have hp' := Bool.eq_false_iff.2 hp
    repeat' (first | refine i_seq ?_ | refine k_seq ?_ | refine i_region ?_ | refine l_o ?_ | refine l_nil ?_ | (show RD _ _; refine e_do (by simp (disch := omega) only [go_sem, seval, c, hp', Bool.false_eq_true]; exact IsX.mk) ?_) | refine s_f ?_ | refine f_s ?_ | refine f_n ?_ | refine st2 ?_)
    simp [hp']
@[go_sem] theorem c127 (d : Nat) (a m : Int) (H : Hp) : callV E (den E (d + 6)) 208 [.agg [i64 a, i64 m]] H = some (bl (plainS a m), H) := callV_plain rfl rfl rfl (by simp (disch := omega) only [go_sem, seval]) (f127 d a m) rfl
def ShP (l : List ShD) : Prop := ∀ i : Int, 0 ≤ i → i < l.length → (1 ≤ (sAt l i).fill ∧ (sAt l i).fill ≤ 1073741824 ∧ 1 ≤ (sAt l i).alc ∧ (sAt l i).alc ≤ 10737418240000) ∧ (0 < i → (sAt l (i - 1)).fill < (sAt l i).fill)
def sumN (l : List ShD) : Nat → Int
  | 0 => 0
  | n + 1 => sumN l n + (sAt l n).alc
def sumS (l : List ShD) (i : Int) : Int := sumN l i.toNat
theorem sum_zero (l) : sumS l 0 = 0 := rfl
theorem sum_next (l : List ShD) {i : Int} (h : 0 ≤ i) : sumS l (i + 1) = sumS l i + (sAt l i).alc := by
  unfold sumS
  rw [show (i + 1).toNat = i.toNat + 1 by omega, sumN, show ((i.toNat : Nat) : Int) = i by omega]
def ShTo (l : List ShD) (i : Int) : Prop := 0 ≤ i ∧ i ≤ l.length ∧ 0 ≤ sumS l i ∧ sumS l i ≤ i * 10737418240000 ∧ ∀ j : Int, 0 ≤ j → j < i → (1 ≤ (sAt l j).fill ∧ (sAt l j).fill ≤ 1073741824 ∧ 1 ≤ (sAt l j).alc ∧ (sAt l j).alc ≤ 10737418240000) ∧ (0 < j → (sAt l (j - 1)).fill < (sAt l j).fill)
theorem ShTo.zero (l) : ShTo l 0 := ⟨by omega, by omega, by rw [sum_zero]; omega, by rw [sum_zero]; omega, fun j h1 h2 => by omega⟩
theorem ShTo.next {l : List ShD} {i : Int} (h : ShTo l i) (hi : i < l.length) (h1 : 1 ≤ (sAt l i).fill ∧ (sAt l i).fill ≤ 1073741824 ∧ 1 ≤ (sAt l i).alc ∧ (sAt l i).alc ≤ 10737418240000) (h2 : 0 < i → (sAt l (i - 1)).fill < (sAt l i).fill) : ShTo l (i + 1) := by
  obtain ⟨a, b, c, e, f⟩ := h
  refine ⟨by omega, by omega, by rw [sum_next l a]; omega, by rw [sum_next l a]; omega, fun j j1 j2 => ?_⟩
  by_cases ej : j = i
  · subst ej; exact ⟨h1, h2⟩
  · exact f j j1 (by omega)
theorem ShTo.all {l : List ShD} (h : ShTo l l.length) : ShP l := h.2.2.2.2
open Classical in
noncomputable def shS (l : List ShD) (alc : Int) : Int := if 32 < l.length then 12 else if ¬ ShP l then 10 else if sumS l l.length ≠ alc then 14 else 0
theorem sh_12 {l : List ShD} {alc : Int} (h : 32 < l.length) : shS l alc = 12 := by simp [shS, h]
theorem sh_10 {l : List ShD} {alc : Int} (h : ¬ 32 < l.length) (hp : ¬ ShP l) : shS l alc = 10 := by simp [shS, h, hp]
theorem sh_14 {l : List ShD} {alc : Int} (h : ¬ 32 < l.length) (hp : ShP l) (hs : sumS l l.length ≠ alc) : shS l alc = 14 := by simp [shS, h, hp, hs]
theorem sh_0 {l : List ShD} {alc : Int} (h : ¬ 32 < l.length) (hp : ShP l) (hs : sumS l l.length = alc) : shS l alc = 0 := by simp [shS, h, hp, hs]
theorem sh_bad {l : List ShD} {i : Int} (h0 : 0 ≤ i) (h1 : i < l.length) (h : ¬ ((1 ≤ (sAt l i).fill ∧ (sAt l i).fill ≤ 1073741824 ∧ 1 ≤ (sAt l i).alc ∧ (sAt l i).alc ≤ 10737418240000) ∧ (0 < i → (sAt l (i - 1)).fill < (sAt l i).fill))) : ¬ ShP l := fun hp => h (hp i h0 h1)

theorem f128 (d : Nat) (x : LotD) : ∃ H0, den E (d + 1) 209 [.agg x.cells] [] = some (i64 (shS x.sh x.alc), H0) := by
  refine den_ex Tryz.func209 rfl Tryz.ntmps209 (by simp) _ Tryz.results209 ?_
  by_cases hl : 32 < x.sh.length
  · repeat' (first | refine i_seq ?_ | refine k_seq ?_ | refine i_region ?_ | refine l_o ?_ | refine l_nil ?_ | (show RD _ _; refine e_do (by simp (disch := omega) only [go_sem, seval]; exact IsX.mk) ?_) | refine s_f ?_ | refine f_s ?_ | refine f_n ?_ | refine st2 ?_)
    rw [sh_12 hl]
  · repeat' (first | refine i_seq ?_ | refine k_seq ?_ | refine i_region ?_ | refine l_o ?_ | refine l_nil ?_ | (show RD _ _; refine e_do (by simp (disch := omega) only [go_sem, seval]; exact IsX.mk) ?_) | refine s_f ?_ | refine f_s ?_ | refine f_n ?_ | refine st2 ?_)
    refine i_loop (fun a : Int × Hp => upd (upd (upd (upd (upd jk 13 (i64 a.1)) 12 (i64 x.sh.length)) 11 (sl x.nilS (flS x.sh) x.sh.length)) 3 (i64 (sumS x.sh a.1))) 1 (.op 0 0)) (fun a : Int × Hp => .row ⟨x.cells, 53, 4, true⟩ :: a.2)
      (fun a => (x.sh.length - a.1).toNat) (fun a => ShTo x.sh a.1) (0, []) (by simp only [rounds]; omega) (by simp (disch := omega) only [go_sem, seval, sum_zero]) (by simp (disch := omega) only [go_sem, seval]) (ShTo.zero _) ?_
    rintro ⟨i, G⟩ hto
    have hto : ShTo x.sh i := hto
    have h1 : 0 ≤ i := hto.1
    have h2 : i ≤ x.sh.length := hto.2.1
    have h3 : 0 ≤ sumS x.sh i ∧ sumS x.sh i ≤ i * 10737418240000 := ⟨hto.2.2.1, hto.2.2.2.1⟩
    by_cases hi : i < x.sh.length
    · have hn := sum_next x.sh h1
      repeat' (first | (first | refine i_seq ?_ | refine k_seq ?_ | refine i_region ?_ | refine l_o ?_ | refine l_nil ?_ | (show RD _ _; refine e_do (by simp (disch := omega) only [go_sem, seval, wr64]; exact IsX.mk) ?_) | refine s_f ?_ | refine f_s ?_ | refine f_n ?_ | refine st2 ?_) | (first | refine x2_split (fun h => ?_) (fun h => ?_) | refine q2_split (fun h => ?_) (fun h => ?_)) <;> (try simp only [beq_iff_eq, bne_iff_ne, beq_eq_false_iff_ne, bne_eq_false_iff_eq, ne_eq, decide_eq_true_eq, decide_eq_false_iff_not, gt_iff_lt, ge_iff_le, Bool.not_eq_true', Bool.not_eq_false'] at h))
      · rw [sh_10 hl (sh_bad h1 hi (by omega))]
      · rw [sh_10 hl (sh_bad h1 hi (by omega))]
      · rw [sh_10 hl (sh_bad h1 hi (by omega))]
      · rw [sh_10 hl (sh_bad h1 hi (by omega))]
      · rw [sh_10 hl (sh_bad h1 hi (by omega))]
      · exact k_loop (i + 1, _) (by simp only; omega) (by simp (disch := omega) only [go_sem, seval, wr64, hn]) rfl (hto.next hi (by omega) (fun _ => by omega))
      · exact k_loop (i + 1, _) (by simp only; omega) (by simp (disch := omega) only [go_sem, seval, wr64, hn]) rfl (hto.next hi (by omega) (fun _ => by omega))
    · have : i = x.sh.length := by omega
      subst this
      have hp := ShTo.all hto
      by_cases hs : sumS x.sh x.sh.length = x.alc
      · repeat' (first | refine i_seq ?_ | refine k_seq ?_ | refine i_region ?_ | refine l_o ?_ | refine l_nil ?_ | (show RD _ _; refine e_do (by simp (disch := omega) only [go_sem, seval, hs]; exact IsX.mk) ?_) | refine s_f ?_ | refine f_s ?_ | refine f_n ?_ | refine st2 ?_)
        rw [sh_0 hl hp hs]
      · repeat' (first | refine i_seq ?_ | refine k_seq ?_ | refine i_region ?_ | refine l_o ?_ | refine l_nil ?_ | (show RD _ _; refine e_do (by simp (disch := omega) only [go_sem, seval]; exact IsX.mk) ?_) | refine s_f ?_ | refine f_s ?_ | refine f_n ?_ | refine st2 ?_)
        rw [sh_14 hl hp hs]
end Go.Age
end
section
set_option linter.all false
set_option linter.unusedVariables false
set_option linter.unusedSimpArgs false
set_option maxRecDepth 100000
set_option maxHeartbeats 4000000
attribute [local irreducible] Go.Den.W Go.Den.WL Go.Den.WX Go.Den.WQ Go.Den.QR Go.Den.WG Go.Den.WO Go.Den.WK Go.Den.grows Go.Den.stepOp Go.Den.callV Go.Den.den
namespace Go.Age
open Go.Den Go.Proofs
@[go_sem] theorem c128 (d : Nat) (x : LotD) (H : Hp) : callV E (den E (d + 1)) 209 [.agg x.cells] H = some (i64 (shS x.sh x.alc), H) := callV_plain rfl rfl rfl (by simp (disch := omega) only [go_sem, seval]) (f128 d x) rfl
open Classical in
noncomputable def shE (l : List ShD) : Int := if 32 < l.length then 12 else if ¬ ShP l then 10 else 0
theorem f153 (d : Nat) (b : Bool) (l : List ShD) : ∃ H0, den E (d + 1) 223 [sl b (flS l) l.length] [] = some (i64 (shE l), H0) := by
  refine den_ex Tryz.func223 rfl Tryz.ntmps223 (by simp) _ Tryz.results223 ?_
  by_cases hl : 32 < l.length
  · repeat' (first | refine i_seq ?_ | refine k_seq ?_ | refine i_region ?_ | refine l_o ?_ | refine l_nil ?_ | (show RD _ _; refine e_do (by simp (disch := omega) only [go_sem, seval]; exact IsX.mk) ?_) | refine s_f ?_ | refine f_s ?_ | refine f_n ?_ | refine st2 ?_)
    simp [shE, hl]
  · have bad : ¬ ShP l → shE l = 10 := fun h => by simp [shE, hl, h]
    repeat' (first | refine i_seq ?_ | refine k_seq ?_ | refine i_region ?_ | refine l_o ?_ | refine l_nil ?_ | (show RD _ _; refine e_do (by simp (disch := omega) only [go_sem, seval]; exact IsX.mk) ?_) | refine s_f ?_ | refine f_s ?_ | refine f_n ?_ | refine st2 ?_)
    refine i_loop (fun i : Int => upd (upd jk 3 (i64 i)) 0 (sl b (flS l) l.length)) (fun i : Int => [])
      (fun i => (l.length - i).toNat) (fun i => ShTo l i) 0 (by simp only [rounds]; omega) (by simp (disch := omega) only [go_sem, seval]) (by simp (disch := omega) only [go_sem, seval]) (ShTo.zero _) ?_
    intro i hto
    have h1 : 0 ≤ i := hto.1
    have h2 : i ≤ l.length := hto.2.1
    by_cases hi : i < l.length
    · repeat' (first | (first | refine i_seq ?_ | refine k_seq ?_ | refine i_region ?_ | refine l_o ?_ | refine l_nil ?_ | (show RD _ _; refine e_do (by simp (disch := omega) only [go_sem, seval, wr64]; exact IsX.mk) ?_) | refine s_f ?_ | refine f_s ?_ | refine f_n ?_ | refine st2 ?_) | (first | refine x2_split (fun h => ?_) (fun h => ?_) | refine q2_split (fun h => ?_) (fun h => ?_)) <;> (try simp only [beq_iff_eq, bne_iff_ne, beq_eq_false_iff_ne, bne_eq_false_iff_eq, ne_eq, decide_eq_true_eq, decide_eq_false_iff_not, gt_iff_lt, ge_iff_le, Bool.not_eq_true', Bool.not_eq_false'] at h))
      · rw [bad (sh_bad h1 hi (by omega))]
      · rw [bad (sh_bad h1 hi (by omega))]
      · rw [bad (sh_bad h1 hi (by omega))]
      · rw [bad (sh_bad h1 hi (by omega))]
      · rw [bad (sh_bad h1 hi (by omega))]
      · exact k_loop (i + 1) (by omega) (by simp (disch := omega) only [go_sem, seval, wr64]) rfl (hto.next hi (by omega) (fun _ => by omega))
      · exact k_loop (i + 1) (by omega) (by simp (disch := omega) only [go_sem, seval, wr64]) rfl (hto.next hi (by omega) (fun _ => by omega))
    · have : i = l.length := by omega
      subst this
      have hp := ShTo.all hto
      repeat' (first | refine i_seq ?_ | refine k_seq ?_ | refine i_region ?_ | refine l_o ?_ | refine l_nil ?_ | (show RD _ _; refine e_do (by simp (disch := omega) only [go_sem, seval]; exact IsX.mk) ?_) | refine s_f ?_ | refine f_s ?_ | refine f_n ?_ | refine st2 ?_)
      simp [shE, hl, hp]
@[go_sem] theorem c153 (d : Nat) (b : Bool) (l : List ShD) (H : Hp) : callV E (den E (d + 1)) 223 [sl b (flS l) l.length] H = some (i64 (shE l), H) := callV_plain rfl rfl rfl (by simp (disch := omega) only [go_sem, seval]) (f153 d b l) rfl
theorem ShP.to {l : List ShD} (h : ShP l) : ∀ n : Nat, n ≤ l.length → ShTo l n
  | 0, _ => ShTo.zero l
  | n + 1, hn => by
    have h1 := ShP.to h n (by omega)
    have h2 := h n (by omega) (by omega)
    exact h1.next (by omega) h2.1 h2.2
theorem f154 (d : Nat) (b : Bool) (l : List ShD) (hl : l.length ≤ 1000) (hp : ShP l) : ∃ H0, den E (d + 1) 224 [sl b (flS l) l.length] [] = some (i64 (sumS l l.length), H0) := by
  refine den_ex Tryz.func224 rfl Tryz.ntmps224 (by simp) _ Tryz.results224 ?_
  repeat' (first | refine i_seq ?_ | refine k_seq ?_ | refine i_region ?_ | refine l_o ?_ | refine l_nil ?_ | (show RD _ _; refine e_do (by simp (disch := omega) only [go_sem, seval]; exact IsX.mk) ?_) | refine s_f ?_ | refine f_s ?_ | refine f_n ?_ | refine st2 ?_)
  refine i_loop (fun i : Int => upd (upd (upd jk 4 (i64 i)) 3 (i64 (sumS l i))) 0 (sl b (flS l) l.length)) (fun i : Int => [])
    (fun i => (l.length - i).toNat) (fun i => ShTo l i) 0 (by simp only [rounds]; omega) (by simp (disch := omega) only [go_sem, seval, sum_zero]) (by simp (disch := omega) only [go_sem, seval]) (ShTo.zero _) ?_
  intro i hto
  have h1 : 0 ≤ i := hto.1
  have h2 : i ≤ l.length := hto.2.1
  have h3 : 0 ≤ sumS l i ∧ sumS l i ≤ i * 10737418240000 := ⟨hto.2.2.1, hto.2.2.2.1⟩
  by_cases hi : i < l.length
  · have hn := sum_next l h1
    have h4 := hp i h1 hi
    repeat' (first | refine i_seq ?_ | refine k_seq ?_ | refine i_region ?_ | refine l_o ?_ | refine l_nil ?_ | (show RD _ _; refine e_do (by simp (disch := omega) only [go_sem, seval, wr64]; exact IsX.mk) ?_) | refine s_f ?_ | refine f_s ?_ | refine f_n ?_ | refine st2 ?_)
    exact k_loop (i + 1) (by omega) (by simp (disch := omega) only [go_sem, seval, wr64, hn]) rfl (hto.next hi h4.1 h4.2)
  · have : i = l.length := by omega
    subst this
    repeat' (first | refine i_seq ?_ | refine k_seq ?_ | refine i_region ?_ | refine l_o ?_ | refine l_nil ?_ | (show RD _ _; refine e_do (by simp (disch := omega) only [go_sem, seval]; exact IsX.mk) ?_) | refine s_f ?_ | refine f_s ?_ | refine f_n ?_ | refine st2 ?_)
    try rfl
theorem c154 (d : Nat) (b : Bool) (l : List ShD) (H : Hp) (hl : l.length ≤ 1000) (hp : ShP l) : callV E (den E (d + 1)) 224 [sl b (flS l) l.length] H = some (i64 (sumS l l.length), H) := callV_plain rfl rfl rfl (by simp (disch := omega) only [go_sem, seval]) (f154 d b l hl hp) rfl
noncomputable def lotS (x : LotD) : Int := if plainS x.alc x.mass = true ∧ ¬ x.mass = 0 then shS x.sh x.alc else 1
theorem f129 (d : Nat) (x : LotD) : ∃ H0, den E (d + 2) 194 [.agg x.cells] [] = some (i64 (lotS x), H0) := by
  refine den_ex Tryz.func194 rfl Tryz.ntmps194 (by simp) _ Tryz.results194 ?_
  by_cases h1 : plainS x.alc x.mass = true
  · by_cases h2 : x.mass = 0
    · repeat' (first | refine i_seq ?_ | refine k_seq ?_ | refine i_region ?_ | refine l_o ?_ | refine l_nil ?_ | (show RD _ _; refine e_do (by simp (disch := omega) only [go_sem, seval, h1]; exact IsX.mk) ?_) | refine s_f ?_ | refine f_s ?_ | refine f_n ?_ | refine st2 ?_)
      simp [lotS, h2]
    · by_cases hl : 32 < x.sh.length
      · have e : shE x.sh = 12 := by simp [shE, hl]
        repeat' (first | refine i_seq ?_ | refine k_seq ?_ | refine i_region ?_ | refine l_o ?_ | refine l_nil ?_ | (show RD _ _; refine e_do (by simp (disch := omega) only [go_sem, seval, h1, e]; exact IsX.mk) ?_) | refine s_f ?_ | refine f_s ?_ | refine f_n ?_ | refine st2 ?_)
        simp [lotS, h1, h2, sh_12 hl]
      · by_cases hp : ShP x.sh
        · have e : shE x.sh = 0 := by simp [shE, hl, hp]
          have c := c154 d x.nilS x.sh
          by_cases hs : sumS x.sh x.sh.length = x.alc
          · repeat' (first | refine i_seq ?_ | refine k_seq ?_ | refine i_region ?_ | refine l_o ?_ | refine l_nil ?_ | (show RD _ _; refine e_do (by simp (disch := omega) only [go_sem, seval, h1, e, c _ (by omega) hp]; exact IsX.mk) ?_) | refine s_f ?_ | refine f_s ?_ | refine f_n ?_ | refine st2 ?_)
            simp [lotS, h1, h2, sh_0 hl hp hs]
          · repeat' (first | refine i_seq ?_ | refine k_seq ?_ | refine i_region ?_ | refine l_o ?_ | refine l_nil ?_ | (show RD _ _; refine e_do (by simp (disch := omega) only [go_sem, seval, h1, e, c _ (by omega) hp]; exact IsX.mk) ?_) | refine s_f ?_ | refine f_s ?_ | refine f_n ?_ | refine st2 ?_)
            simp [lotS, h1, h2, sh_14 hl hp hs]
        · have e : shE x.sh = 10 := by simp [shE, hl, hp]
          repeat' (first | refine i_seq ?_ | refine k_seq ?_ | refine i_region ?_ | refine l_o ?_ | refine l_nil ?_ | (show RD _ _; refine e_do (by simp (disch := omega) only [go_sem, seval, h1, e]; exact IsX.mk) ?_) | refine s_f ?_ | refine f_s ?_ | refine f_n ?_ | refine st2 ?_)
          simp [lotS, h1, h2, sh_10 hl hp]
  · have h1' := Bool.eq_false_iff.2 h1
    repeat' (first | refine i_seq ?_ | refine k_seq ?_ | refine i_region ?_ | refine l_o ?_ | refine l_nil ?_ | (show RD _ _; refine e_do (by simp (disch := omega) only [go_sem, seval, h1']; exact IsX.mk) ?_) | refine s_f ?_ | refine f_s ?_ | refine f_n ?_ | refine st2 ?_)
    simp [lotS, h1']
@[go_sem] theorem c129 (d : Nat) (x : LotD) (H : Hp) : callV E (den E (d + 2)) 194 [.agg x.cells] H = some (i64 (lotS x), H) := callV_plain rfl rfl rfl (by simp (disch := omega) only [go_sem, seval]) (f129 d x) rfl
noncomputable def fltS (l : List LotD) (i : Int) : Int := if ¬ (1 ≤ (lAt l i).id ∧ (lAt l i).id ≤ 1073741824) then 2 else if 0 < i ∧ (lAt l i).id ≤ (lAt l (i - 1)).id then 5 else lotS (lAt l i)
theorem flt_2 {l i} (h : ¬ (1 ≤ (lAt l i).id ∧ (lAt l i).id ≤ 1073741824)) : fltS l i = 2 := by simp only [fltS, if_pos h]
theorem flt_5 {l i} (h : 1 ≤ (lAt l i).id ∧ (lAt l i).id ≤ 1073741824) (h2 : 0 < i ∧ (lAt l i).id ≤ (lAt l (i - 1)).id) : fltS l i = 5 := by simp only [fltS, if_neg (fun hn : ¬ _ => hn h), if_pos h2]
theorem flt_l {l i} (h : 1 ≤ (lAt l i).id ∧ (lAt l i).id ≤ 1073741824) (h2 : ¬ (0 < i ∧ (lAt l i).id ≤ (lAt l (i - 1)).id)) : fltS l i = lotS (lAt l i) := by simp only [fltS, if_neg (fun hn : ¬ _ => hn h), if_neg h2]
theorem f108 (d : Nat) (b : Bool) (l : List LotD) (i : Int) (hl : l.length ≤ 1000) (hi : 0 ≤ i ∧ i < l.length) : ∃ H0, den E (d + 7) 181 [sl b (flL l) l.length, i64 i] [] = some (i64 (fltS l i), H0) := by
  refine den_ex Tryz.func181 rfl Tryz.ntmps181 (by simp) _ Tryz.results181 ?_
  by_cases h1 : plainS (lAt l i).alc (lAt l i).mass = true
  · by_cases h2 : (lAt l i).mass = 0
    · have e : lotS (lAt l i) = 1 := by simp [lotS, h2]
      repeat' (first | (first | refine i_seq ?_ | refine k_seq ?_ | refine i_region ?_ | refine l_o ?_ | refine l_nil ?_ | (show RD _ _; refine e_do (by simp (disch := omega) only [go_sem, seval, h1, wr64]; exact IsX.mk) ?_) | refine s_f ?_ | refine f_s ?_ | refine f_n ?_ | refine st2 ?_) | (first | refine x2_split (fun h => ?_) (fun h => ?_) | refine q2_split (fun h => ?_) (fun h => ?_)) <;> (try simp only [beq_iff_eq, bne_iff_ne, beq_eq_false_iff_ne, bne_eq_false_iff_eq, ne_eq, decide_eq_true_eq, decide_eq_false_iff_not, gt_iff_lt, ge_iff_le, Bool.not_eq_true', Bool.not_eq_false'] at h))
      all_goals first | rw [flt_2 (by omega)] | rw [flt_5 (by omega) (by omega)] | rw [flt_l (by omega) (by omega), e]
    · have e : lotS (lAt l i) = shS (lAt l i).sh (lAt l i).alc := by simp [lotS, h1, h2]
      repeat' (first | (first | refine i_seq ?_ | refine k_seq ?_ | refine i_region ?_ | refine l_o ?_ | refine l_nil ?_ | (show RD _ _; refine e_do (by simp (disch := omega) only [go_sem, seval, h1, wr64]; exact IsX.mk) ?_) | refine s_f ?_ | refine f_s ?_ | refine f_n ?_ | refine st2 ?_) | (first | refine x2_split (fun h => ?_) (fun h => ?_) | refine q2_split (fun h => ?_) (fun h => ?_)) <;> (try simp only [beq_iff_eq, bne_iff_ne, beq_eq_false_iff_ne, bne_eq_false_iff_eq, ne_eq, decide_eq_true_eq, decide_eq_false_iff_not, gt_iff_lt, ge_iff_le, Bool.not_eq_true', Bool.not_eq_false'] at h))
      all_goals first | rw [flt_2 (by omega)] | rw [flt_5 (by omega) (by omega)] | rw [flt_l (by omega) (by omega), e]
  · have h1' := Bool.eq_false_iff.2 h1
    have e : lotS (lAt l i) = 1 := by simp [lotS, h1']
    repeat' (first | (first | refine i_seq ?_ | refine k_seq ?_ | refine i_region ?_ | refine l_o ?_ | refine l_nil ?_ | (show RD _ _; refine e_do (by simp (disch := omega) only [go_sem, seval, h1', wr64]; exact IsX.mk) ?_) | refine s_f ?_ | refine f_s ?_ | refine f_n ?_ | refine st2 ?_) | (first | refine x2_split (fun h => ?_) (fun h => ?_) | refine q2_split (fun h => ?_) (fun h => ?_)) <;> (try simp only [beq_iff_eq, bne_iff_ne, beq_eq_false_iff_ne, bne_eq_false_iff_eq, ne_eq, decide_eq_true_eq, decide_eq_false_iff_not, gt_iff_lt, ge_iff_le, Bool.not_eq_true', Bool.not_eq_false'] at h))
    all_goals first | rw [flt_2 (by omega)] | rw [flt_5 (by omega) (by omega)] | rw [flt_l (by omega) (by omega), e]
theorem c108 (d : Nat) (b : Bool) (l : List LotD) (i : Int) (H : Hp) (hl : l.length ≤ 1000) (hi : 0 ≤ i ∧ i < l.length) : callV E (den E (d + 7)) 181 [sl b (flL l) l.length, i64 i] H = some (i64 (fltS l i), H) := callV_plain rfl rfl rfl (by simp (disch := omega) only [go_sem, seval]) (f108 d b l i hl hi) rfl
def LotsOk (l : List LotD) : Prop := l.length ≤ 32 ∧ ∀ i : Int, 0 ≤ i → i < l.length → fltS l i = 0
theorem f91 (d : Nat) (b : Bool) (l : List LotD) : ∃ c H0, den E (d + 8) 148 [sl b (flL l) l.length] [] = some (c, H0) ∧ ∃ a e, c = .tup [i64 a, i64 e] ∧ (e = 0 ↔ LotsOk l) := by
  refine den_of_W Tryz.func148 rfl Tryz.ntmps148 (by simp) _ Tryz.results148 ?_
  by_cases hl : 32 < l.length
  · repeat' (first | refine i_seq ?_ | refine k_seq ?_ | refine i_region ?_ | refine l_o ?_ | refine l_nil ?_ | (show RD _ _; refine e_do (by simp (disch := omega) only [go_sem, seval]; exact IsX.mk) ?_) | refine s_f ?_ | refine f_s ?_ | refine f_n ?_ | refine st2 ?_)
    exact ⟨_, _, rfl, by simp [LotsOk]; omega⟩
  · repeat' (first | refine i_seq ?_ | refine k_seq ?_ | refine i_region ?_ | refine l_o ?_ | refine l_nil ?_ | (show RD _ _; refine e_do (by simp (disch := omega) only [go_sem, seval]; exact IsX.mk) ?_) | refine s_f ?_ | refine f_s ?_ | refine f_n ?_ | refine st2 ?_)
    refine i_loop (fun i : Int => upd (upd (upd jk 11 (i64 i)) 10 (i64 l.length)) 0 (sl b (flL l) l.length)) (fun i : Int => [])
      (fun i => (l.length - i).toNat) (fun i => 0 ≤ i ∧ i ≤ l.length ∧ ∀ j : Int, 0 ≤ j → j < i → fltS l j = 0) 0 (by simp only [rounds]; omega) (by simp (disch := omega) only [go_sem, seval]) (by simp (disch := omega) only [go_sem, seval]) ⟨by omega, by omega, by omega⟩ ?_
    rintro i ⟨h1, h2, h3⟩
    by_cases hi : i < l.length
    · have c := c108 d b l i [] (by omega) ⟨h1, hi⟩
      by_cases e : fltS l i = 0
      · repeat' (first | refine i_seq ?_ | refine k_seq ?_ | refine i_region ?_ | refine l_o ?_ | refine l_nil ?_ | (show RD _ _; refine e_do (by simp (disch := omega) only [go_sem, seval, c, wr64, e]; exact IsX.mk) ?_) | refine s_f ?_ | refine f_s ?_ | refine f_n ?_ | refine st2 ?_)
        refine k_loop (i + 1) (by omega) (by simp (disch := omega) only [go_sem, seval, wr64]) rfl ⟨by omega, by omega, fun j j1 j2 => ?_⟩
        by_cases ej : j = i
        · subst ej; exact e
        · exact h3 j j1 (by omega)
      · repeat' (first | refine i_seq ?_ | refine k_seq ?_ | refine i_region ?_ | refine l_o ?_ | refine l_nil ?_ | (show RD _ _; refine e_do (by simp (disch := omega) only [go_sem, seval, c, wr64]; exact IsX.mk) ?_) | refine s_f ?_ | refine f_s ?_ | refine f_n ?_ | refine st2 ?_)
        exact ⟨_, _, rfl, ⟨fun h => absurd h e, fun h => absurd (h.2 i h1 hi) e⟩⟩
    · have : i = l.length := by omega
      subst this
      repeat' (first | refine i_seq ?_ | refine k_seq ?_ | refine i_region ?_ | refine l_o ?_ | refine l_nil ?_ | (show RD _ _; refine e_do (by simp (disch := omega) only [go_sem, seval]; exact IsX.mk) ?_) | refine s_f ?_ | refine f_s ?_ | refine f_n ?_ | refine st2 ?_)
      exact ⟨_, _, rfl, ⟨fun _ => ⟨by omega, h3⟩, fun _ => rfl⟩⟩
theorem f109 (d : Nat) (b : Bool) (l : List LotD) : ∃ c H0, den E (d + 3) 160 [sl b (flL l) l.length] [] = some (c, H0) ∧ ∃ a e, c = .tup [i64 a, i64 e] ∧ (e = 0 ↔ LotsOk l) := by
  refine den_of_W Tryz.func160 rfl Tryz.ntmps160 (by simp) _ Tryz.results160 ?_
  by_cases hl : 32 < l.length
  · repeat' (first | refine i_seq ?_ | refine k_seq ?_ | refine i_region ?_ | refine l_o ?_ | refine l_nil ?_ | (show RD _ _; refine e_do (by simp (disch := omega) only [go_sem, seval]; exact IsX.mk) ?_) | refine s_f ?_ | refine f_s ?_ | refine f_n ?_ | refine st2 ?_)
    exact ⟨_, _, rfl, by simp [LotsOk]; omega⟩
  · repeat' (first | refine i_seq ?_ | refine k_seq ?_ | refine i_region ?_ | refine l_o ?_ | refine l_nil ?_ | (show RD _ _; refine e_do (by simp (disch := omega) only [go_sem, seval]; exact IsX.mk) ?_) | refine s_f ?_ | refine f_s ?_ | refine f_n ?_ | refine st2 ?_)
    refine i_loop (fun i : Int => upd (upd jk 4 (i64 i)) 0 (sl b (flL l) l.length)) (fun i : Int => [])
      (fun i => (l.length - i).toNat) (fun i => 0 ≤ i ∧ i ≤ l.length ∧ ∀ j : Int, 0 ≤ j → j < i → fltS l j = 0) 0 (by simp only [rounds]; omega) (by simp (disch := omega) only [go_sem, seval]) (by simp (disch := omega) only [go_sem, seval]) ⟨by omega, by omega, by omega⟩ ?_
    rintro i ⟨h1, h2, h3⟩
    by_cases hi : i < l.length
    · have bad : ∀ {a e : Int}, fltS l i ≠ 0 → e ≠ 0 → ∃ a' e', CV.tup [i64 a, i64 e] = CV.tup [i64 a', i64 e'] ∧ (e' = 0 ↔ LotsOk l) := fun {a e} h h' => ⟨a, e, rfl, ⟨fun x => absurd x h', fun x => absurd (x.2 i h1 hi) h⟩⟩
      by_cases g1 : 1 ≤ (lAt l i).id ∧ (lAt l i).id ≤ 1073741824
      · by_cases g2 : 0 < i ∧ (lAt l i).id ≤ (lAt l (i - 1)).id
        · repeat' (first | refine i_seq ?_ | refine k_seq ?_ | refine i_region ?_ | refine l_o ?_ | refine l_nil ?_ | (show RD _ _; refine e_do (by simp (disch := omega) only [go_sem, seval, wr64, id_t g1]; exact IsX.mk) ?_) | refine s_f ?_ | refine f_s ?_ | refine f_n ?_ | refine st2 ?_)
          exact bad (by rw [flt_5 g1 g2]; decide) (by decide)
        · by_cases g0 : 0 < i
          · by_cases e : lotS (lAt l i) = 0
            · repeat' (first | refine i_seq ?_ | refine k_seq ?_ | refine i_region ?_ | refine l_o ?_ | refine l_nil ?_ | (show RD _ _; refine e_do (by simp (disch := omega) only [go_sem, seval, wr64, id_t g1, e]; exact IsX.mk) ?_) | refine s_f ?_ | refine f_s ?_ | refine f_n ?_ | refine st2 ?_)
              refine k_loop (i + 1) (by omega) (by simp (disch := omega) only [go_sem, seval, wr64]) rfl ⟨by omega, by omega, fun j j1 j2 => ?_⟩
              by_cases ej : j = i
              · subst ej; rw [flt_l g1 g2, e]
              · exact h3 j j1 (by omega)
            · repeat' (first | refine i_seq ?_ | refine k_seq ?_ | refine i_region ?_ | refine l_o ?_ | refine l_nil ?_ | (show RD _ _; refine e_do (by simp (disch := omega) only [go_sem, seval, wr64, id_t g1]; exact IsX.mk) ?_) | refine s_f ?_ | refine f_s ?_ | refine f_n ?_ | refine st2 ?_)
              exact bad (by rw [flt_l g1 g2]; exact e) e
          · by_cases e : lotS (lAt l i) = 0
            · repeat' (first | refine i_seq ?_ | refine k_seq ?_ | refine i_region ?_ | refine l_o ?_ | refine l_nil ?_ | (show RD _ _; refine e_do (by simp (disch := omega) only [go_sem, seval, wr64, id_t g1, e]; exact IsX.mk) ?_) | refine s_f ?_ | refine f_s ?_ | refine f_n ?_ | refine st2 ?_)
              refine k_loop (i + 1) (by omega) (by simp (disch := omega) only [go_sem, seval, wr64]) rfl ⟨by omega, by omega, fun j j1 j2 => ?_⟩
              by_cases ej : j = i
              · subst ej; rw [flt_l g1 g2, e]
              · exact h3 j j1 (by omega)
            · repeat' (first | refine i_seq ?_ | refine k_seq ?_ | refine i_region ?_ | refine l_o ?_ | refine l_nil ?_ | (show RD _ _; refine e_do (by simp (disch := omega) only [go_sem, seval, wr64, id_t g1]; exact IsX.mk) ?_) | refine s_f ?_ | refine f_s ?_ | refine f_n ?_ | refine st2 ?_)
              exact bad (by rw [flt_l g1 g2]; exact e) e
      · repeat' (first | refine i_seq ?_ | refine k_seq ?_ | refine i_region ?_ | refine l_o ?_ | refine l_nil ?_ | (show RD _ _; refine e_do (by simp (disch := omega) only [go_sem, seval, wr64, id_f g1]; exact IsX.mk) ?_) | refine s_f ?_ | refine f_s ?_ | refine f_n ?_ | refine st2 ?_)
        exact bad (by rw [flt_2 g1]; decide) (by decide)
    · have : i = l.length := by omega
      subst this
      repeat' (first | refine i_seq ?_ | refine k_seq ?_ | refine i_region ?_ | refine l_o ?_ | refine l_nil ?_ | (show RD _ _; refine e_do (by simp (disch := omega) only [go_sem, seval]; exact IsX.mk) ?_) | refine s_f ?_ | refine f_s ?_ | refine f_n ?_ | refine st2 ?_)
      exact ⟨_, _, rfl, ⟨fun _ => ⟨by omega, h3⟩, fun _ => rfl⟩⟩
theorem f92 (d : Nat) (b : Bool) (l : List LotD) : ∃ c H0, den E (d + 4) 128 [sl b (flL l) l.length] [] = some (c, H0) ∧ ∃ r : Bool, c = bl r ∧ (r = true ↔ LotsOk l) := by
  refine den_of_W Tryz.func128 rfl Tryz.ntmps128 (by simp) _ Tryz.results128 ?_
  obtain ⟨c, H1, h1, a, e, rfl, h2⟩ := f109 d b l
  have k : callV E (den E (d + 3)) 160 [sl b (flL l) l.length] [] = some (.tup [i64 a, i64 e], []) := callV_plain rfl rfl rfl (by simp (disch := omega) only [go_sem, seval]) ⟨H1, h1⟩ rfl
  by_cases he : e = 0
  · repeat' (first | refine i_seq ?_ | refine k_seq ?_ | refine i_region ?_ | refine l_o ?_ | refine l_nil ?_ | (show RD _ _; refine e_do (by simp (disch := omega) only [go_sem, seval, k]; exact IsX.mk) ?_) | refine s_f ?_ | refine f_s ?_ | refine f_n ?_ | refine st2 ?_)
    exact ⟨_, rfl, by simp [h2.1 he]⟩
  · repeat' (first | refine i_seq ?_ | refine k_seq ?_ | refine i_region ?_ | refine l_o ?_ | refine l_nil ?_ | (show RD _ _; refine e_do (by simp (disch := omega) only [go_sem, seval, k]; exact IsX.mk) ?_) | refine s_f ?_ | refine f_s ?_ | refine f_n ?_ | refine st2 ?_)
    exact ⟨_, rfl, ⟨fun h => by simp at h, fun h => absurd (h2.2 h) he⟩⟩
end Go.Age
end
section
set_option linter.all false
set_option linter.unusedVariables false
set_option linter.unusedSimpArgs false
set_option maxRecDepth 100000
set_option maxHeartbeats 4000000
attribute [local irreducible] Go.Den.W Go.Den.WL Go.Den.WX Go.Den.WQ Go.Den.QR Go.Den.WG Go.Den.WO Go.Den.WK Go.Den.grows Go.Den.stepOp Go.Den.callV Go.Den.den
namespace Go.Age
open Go.Den Go.Proofs
theorem snap_isV (H : Hp) (k : Nat) : ∀ {cs : List CV}, cs.all isV = true → omap (snap H (k + 1)) cs = some cs
  | [], _ => rfl
  | c :: cs, h => by
    simp only [List.all_cons, Bool.and_eq_true] at h
    have ih := snap_isV H k h.2
    cases c <;> simp only [isV, Bool.false_eq_true, false_and] at h
    rw [omap_cons, sn_v, ih]
theorem ids_isV (H : Hp) (k : Nat) : ∀ {cs : List CV}, cs.all isV = true → cs.flatMap (ids H k) = []
  | [], _ => rfl
  | c :: cs, h => by
    simp only [List.all_cons, Bool.and_eq_true] at h
    have ih := ids_isV H k h.2
    cases c <;> simp only [isV, Bool.false_eq_true, false_and] at h
    rw [List.flatMap_cons, ih]
    cases k <;> rfl
theorem von_isV : ∀ {cs : List CV}, cs.all isV = true → cs.all vOnly = true
  | [], _ => rfl
  | c :: cs, h => by
    simp only [List.all_cons, Bool.and_eq_true] at h
    have ih := von_isV h.2
    cases c <;> simp only [isV, Bool.false_eq_true, false_and] at h
    simp [vOnly, ih]
theorem isV_flS : ∀ l : List ShD, (flS l).all isV = true
  | [] => rfl
  | a :: l => by
    have := isV_flS l
    simp only [flS, List.flatMap_cons] at *
    simp [isV, this]
@[go_sem] theorem leaf_flS : ∀ l : List ShD, (flS l).all CV.leaf = true
  | [] => rfl
  | a :: l => by
    have := leaf_flS l
    simp only [flS, List.flatMap_cons] at *
    simp [CV.leaf, valLeaf, this]
@[go_sem] theorem snap_flS8 (H : Hp) (l : List ShD) : omap (snap H 8) (flS l) = some (flS l) := snap_isV H 7 (isV_flS l)
@[go_sem] theorem snap_flS7 (H : Hp) (l : List ShD) : omap (snap H 7) (flS l) = some (flS l) := snap_isV H 6 (isV_flS l)
@[go_sem] theorem snap_flS6 (H : Hp) (l : List ShD) : omap (snap H 6) (flS l) = some (flS l) := snap_isV H 5 (isV_flS l)
@[go_sem] theorem ids_flS8 (H : Hp) (l : List ShD) : (flS l).flatMap (ids H 8) = [] := ids_isV H 8 (isV_flS l)
@[go_sem] theorem von_flS (l : List ShD) : (flS l).all vOnly = true := von_isV (isV_flS l)
abbrev LotD.own (x : LotD) (id : Nat) : CV := .agg [i64 x.id, i64 x.alc, i64 x.mass, .own id 0 x.sh.length 2]
abbrev LotD.row (x : LotD) : Blk := .row ⟨flS x.sh, 66, 2, true⟩
abbrev noLot : CV := .agg [i64 0, i64 0, i64 0, .v (.slice none 0 0)]
abbrev noFill : CV := .agg [i64 0, i64 0, i64 0, strC ⟨#[]⟩, .v (.slice none 0 0)]
theorem f76 (d : Nat) (x : LotD) (hs : x.sh.length ≤ 1000) : ∃ c H1, den E (d + 1) 130 [.agg x.cells] [] = some (c, H1) ∧ ∃ id, c = x.own id ∧ getR H1 id = some ⟨flS x.sh, 66, 2, true⟩ := by
  refine den_of_W Tryz.func130 rfl Tryz.ntmps130 (by simp) _ Tryz.results130 ?_
  have hl := len_flS x.sh
  by_cases h0 : x.sh = []
  · have e : flS [] = [] := rfl
    repeat' (first | refine i_seq ?_ | refine k_seq ?_ | refine i_region ?_ | refine l_o ?_ | refine l_nil ?_ | (show RD _ _; refine e_do (by simp (disch := omega) only [go_sem, seval, h0, e]; exact IsX.mk) ?_) | refine s_f ?_ | refine f_s ?_ | refine f_n ?_ | refine st2 ?_)
    exact ⟨2, by simp [h0], by rw [h0]; rfl⟩
  · have h0' : ¬ x.sh.length = 0 := by simpa using h0
    repeat' (first | refine i_seq ?_ | refine k_seq ?_ | refine i_region ?_ | refine l_o ?_ | refine l_nil ?_ | (show RD _ _; refine e_do (by simp (disch := omega) only [go_sem, seval, h0']; exact IsX.mk) ?_) | refine s_f ?_ | refine f_s ?_ | refine f_n ?_ | refine st2 ?_)
    exact ⟨3, by simp, rfl⟩
theorem c76 (d : Nat) (x : LotD) (H : Hp) (hs : x.sh.length ≤ 1000) : callV E (den E (d + 1)) 130 [.agg x.cells] H = some (x.own H.length, H ++ [x.row]) := by
  obtain ⟨c, H1, h1, id, rfl, h2⟩ := f76 d x hs
  have hl : x.sh.length * 2 = 2 * x.sh.length := Nat.mul_comm _ _
  rw [callV_data (args' := [.agg x.cells]) (r' := .agg [i64 x.id, i64 x.alc, i64 x.mass, .fr (flS x.sh) x.sh.length 66 2]) rfl rfl rfl (by simp (disch := omega) only [go_sem, seval]) h1 (by simp (disch := omega) only [go_sem, seval, h2, hl]) (by simp (disch := omega) only [go_sem, seval])]
  simp (disch := omega) only [go_sem, seval]
attribute [go_sem] c76
def IsLot (l : List LotD) (id : Int) (i : Int) : Prop := 0 ≤ i ∧ i < l.length ∧ (lAt l i).id = id ∧ ∀ j : Int, 0 ≤ j → j < i → (lAt l j).id ≠ id
def NoLot (l : List LotD) (id : Int) (i : Int) : Prop := ∀ j : Int, 0 ≤ j → j < i → (lAt l j).id ≠ id
structure LotsSm (l : List LotD) : Prop where
  n : l.length ≤ 1000
  s : ∀ i : Int, 0 ≤ i → i < l.length → (lAt l i).sh.length ≤ 1000
theorem f49 (d : Nat) (b : Bool) (l : List LotD) (id : Int) (hs : LotsSm l) : ∃ r H1, den E (d + 2) 96 [sl b (flL l) l.length, i64 id] [] = some (r, H1) ∧
    ((∃ i, IsLot l id i ∧ ∃ k, r = .tup [(lAt l i).own k, bl true] ∧ getR H1 k = some ⟨flS (lAt l i).sh, 66, 2, true⟩) ∨ (NoLot l id l.length ∧ r = .tup [noLot, bl false])) := by
  refine den_of_W Tryz.func96 rfl Tryz.ntmps96 (by simp) _ Tryz.results96 ?_
  have s1 := hs.n
  repeat' (first | refine i_seq ?_ | refine k_seq ?_ | refine i_region ?_ | refine l_o ?_ | refine l_nil ?_ | (show RD _ _; refine e_do (by simp (disch := omega) only [go_sem, seval]; exact IsX.mk) ?_) | refine s_f ?_ | refine f_s ?_ | refine f_n ?_ | refine st2 ?_)
  refine i_loop (fun i => upd (upd (upd (upd jk 6 (i64 i)) 4 (.op 0 0)) 1 (i64 id)) 0 (sl b (flL l) l.length)) (fun i : Int => [.row ⟨[i64 0, i64 0, i64 0, .v (.slice none 0 0)], 53, 4, true⟩])
    (fun i => (l.length - i).toNat) (fun i => 0 ≤ i ∧ i ≤ l.length ∧ NoLot l id i) 0 (by simp only [rounds]; omega) (by simp (disch := omega) only [go_sem, seval]) (by simp (disch := omega) only [go_sem, seval]) ⟨by omega, by omega, fun j h1 h2 => by omega⟩ ?_
  rintro i ⟨h1, h2, h3⟩
  by_cases hi : i < l.length
  · have s2 := hs.s i h1 hi
    repeat' (first | (first | refine i_seq ?_ | refine k_seq ?_ | refine i_region ?_ | refine l_o ?_ | refine l_nil ?_ | (show RD _ _; refine e_do (by simp (disch := omega) only [go_sem, seval, wr64]; exact IsX.mk) ?_) | refine s_f ?_ | refine f_s ?_ | refine f_n ?_ | refine st2 ?_) | (first | refine x2_split (fun h => ?_) (fun h => ?_) | refine q2_split (fun h => ?_) (fun h => ?_)) <;> (try simp only [beq_iff_eq, bne_iff_ne, beq_eq_false_iff_ne, bne_eq_false_iff_eq, ne_eq, decide_eq_true_eq, decide_eq_false_iff_not, gt_iff_lt, ge_iff_le, Bool.not_eq_true', Bool.not_eq_false'] at h))
    · exact .inl ⟨i, ⟨h1, hi, by assumption, h3⟩, 1, rfl, rfl⟩
    · refine k_loop (i + 1) (by omega) (by simp (disch := omega) only [go_sem, seval, wr64]) rfl ⟨by omega, by omega, fun j j1 j2 => ?_⟩
      by_cases e : j = i
      · subst e; assumption
      · exact h3 j j1 (by omega)
  · have : i = l.length := by omega
    subst this
    repeat' (first | refine i_seq ?_ | refine k_seq ?_ | refine i_region ?_ | refine l_o ?_ | refine l_nil ?_ | (show RD _ _; refine e_do (by simp (disch := omega) only [go_sem, seval]; exact IsX.mk) ?_) | refine s_f ?_ | refine f_s ?_ | refine f_n ?_ | refine st2 ?_)
    first | exact .inr ⟨h3, rfl⟩ | exact .inr h3
theorem f112 (d : Nat) (b : Bool) (l : List ShD) (hs : l.length ≤ 1000) : ∃ c H1, den E (d + 1) 133 [sl b (flS l) l.length] [] = some (c, H1) ∧ ((l.length = 0 ∧ c = .v (.slice none 0 0)) ∨ ∃ id, c = .own id 0 l.length 2 ∧ getR H1 id = some ⟨flS l, 66, 2, true⟩) := by
  refine den_of_W Tryz.func133 rfl Tryz.ntmps133 (by simp) _ Tryz.results133 ?_
  have hl := len_flS l
  by_cases h0 : l = []
  · have e : flS [] = [] := rfl
    repeat' (first | refine i_seq ?_ | refine k_seq ?_ | refine i_region ?_ | refine l_o ?_ | refine l_nil ?_ | (show RD _ _; refine e_do (by simp (disch := omega) only [go_sem, seval, h0, e]; exact IsX.mk) ?_) | refine s_f ?_ | refine f_s ?_ | refine f_n ?_ | refine st2 ?_)
    first | exact .inl ⟨by simp [h0], rfl⟩ | simp [h0]
  · have h0' : ¬ l.length = 0 := by simpa using h0
    repeat' (first | refine i_seq ?_ | refine k_seq ?_ | refine i_region ?_ | refine l_o ?_ | refine l_nil ?_ | (show RD _ _; refine e_do (by simp (disch := omega) only [go_sem, seval, h0']; exact IsX.mk) ?_) | refine s_f ?_ | refine f_s ?_ | refine f_n ?_ | refine st2 ?_)
    exact .inr ⟨0, rfl, rfl⟩
theorem c112z (d : Nat) (b : Bool) (l : List ShD) (H : Hp) (hs : l.length ≤ 1000) (h0 : l.length = 0) : callV E (den E (d + 1)) 133 [sl b (flS l) l.length] H = some (.v (.slice none 0 0), H) := by
  have : l = [] := List.length_eq_zero_iff.1 h0
  subst this
  have h3 : den E (d + 1) 133 [sl b (flS []) ([] : List ShD).length] [] = some (.v (.slice none 0 0), []) := by
    refine den_eq Tryz.func133 rfl Tryz.ntmps133 (by simp) _ Tryz.results133 ?_
    have e : flS [] = [] := rfl
    repeat' (first | refine i_seq ?_ | refine k_seq ?_ | refine i_region ?_ | refine l_o ?_ | refine l_nil ?_ | (show RD _ _; refine e_do (by simp (disch := omega) only [go_sem, seval, e]; exact IsX.mk) ?_) | refine s_f ?_ | refine f_s ?_ | refine f_n ?_ | refine st2 ?_)
    first | exact ⟨rfl, rfl⟩ | trivial
  exact callV_plain rfl rfl rfl (by simp (disch := omega) only [go_sem, seval]) ⟨_, h3⟩ rfl
theorem c112y (d : Nat) (b : Bool) (l : List ShD) (H : Hp) (hs : l.length ≤ 1000) (h0 : ¬ l.length = 0) : callV E (den E (d + 1)) 133 [sl b (flS l) l.length] H = some (.own H.length 0 l.length 2, H ++ [.row ⟨flS l, 66, 2, true⟩]) := by
  obtain ⟨c, H1, h1, h2⟩ := f112 d b l hs
  have hl : l.length * 2 = 2 * l.length := Nat.mul_comm _ _
  rcases h2 with ⟨h, _⟩ | ⟨id, rfl, h2⟩
  · exact absurd h h0
  · rw [callV_data (args' := [sl b (flS l) l.length]) (r' := .fr (flS l) l.length 66 2) rfl rfl rfl (by simp (disch := omega) only [go_sem, seval]) h1 (by simp (disch := omega) only [go_sem, seval, h2, hl]) (by simp (disch := omega) only [go_sem, seval])]
    simp (disch := omega) only [go_sem, seval]
def LotD.own2 (x : LotD) (id : Nat) : CV := .agg [i64 x.id, i64 x.alc, i64 x.mass, if x.sh.length = 0 then .v (.slice none 0 0) else .own id 0 x.sh.length 2]
theorem f95 (d : Nat) (x : LotD) (hs : x.sh.length ≤ 1000) : ∃ c H1, den E (d + 2) 101 [.agg x.cells] [] = some (c, H1) ∧ ∃ id, c = x.own2 id ∧ (¬ x.sh.length = 0 → getR H1 id = some ⟨flS x.sh, 66, 2, true⟩) := by
  refine den_of_W Tryz.func101 rfl Tryz.ntmps101 (by simp) _ Tryz.results101 ?_
  by_cases h0 : x.sh.length = 0
  · have c := fun H => c112z d x.nilS x.sh H hs h0
    repeat' (first | refine i_seq ?_ | refine k_seq ?_ | refine i_region ?_ | refine l_o ?_ | refine l_nil ?_ | (show RD _ _; refine e_do (by simp (disch := omega) only [go_sem, seval, c]; exact IsX.mk) ?_) | refine s_f ?_ | refine f_s ?_ | refine f_n ?_ | refine st2 ?_)
    exact ⟨0, by simp [LotD.own2, h0], fun h => absurd h0 h⟩
  · have c := fun H => c112y d x.nilS x.sh H hs h0
    repeat' (first | refine i_seq ?_ | refine k_seq ?_ | refine i_region ?_ | refine l_o ?_ | refine l_nil ?_ | (show RD _ _; refine e_do (by simp (disch := omega) only [go_sem, seval, c]; exact IsX.mk) ?_) | refine s_f ?_ | refine f_s ?_ | refine f_n ?_ | refine st2 ?_)
    exact ⟨2, by simp [LotD.own2, h0], fun h => rfl⟩
theorem c95z (d : Nat) (x : LotD) (H : Hp) (h0 : x.sh.length = 0) : callV E (den E (d + 2)) 101 [.agg x.cells] H = some (.agg [i64 x.id, i64 x.alc, i64 x.mass, .v (.slice none 0 0)], H) := by
  obtain ⟨c, H1, h1, id, rfl, h2⟩ := f95 d x (by omega)
  simp only [LotD.own2, h0, if_true] at h1
  exact callV_plain rfl rfl rfl (by simp (disch := omega) only [go_sem, seval]) ⟨_, h1⟩ rfl
theorem c95y (d : Nat) (x : LotD) (H : Hp) (hs : x.sh.length ≤ 1000) (h0 : ¬ x.sh.length = 0) : callV E (den E (d + 2)) 101 [.agg x.cells] H = some (x.own H.length, H ++ [x.row]) := by
  obtain ⟨c, H1, h1, id, rfl, h2⟩ := f95 d x hs
  have h2 := h2 h0
  have hl : x.sh.length * 2 = 2 * x.sh.length := Nat.mul_comm _ _
  simp only [LotD.own2, h0, if_false] at h1
  rw [callV_data (args' := [.agg x.cells]) (r' := .agg [i64 x.id, i64 x.alc, i64 x.mass, .fr (flS x.sh) x.sh.length 66 2]) rfl rfl rfl (by simp (disch := omega) only [go_sem, seval]) h1 (by simp (disch := omega) only [go_sem, seval, h2, hl]) (by simp (disch := omega) only [go_sem, seval])]
  simp (disch := omega) only [go_sem, seval]
theorem f72 (d : Nat) (b : Bool) (l : List LotD) (id : Int) (hs : LotsSm l) : ∃ r H1, den E (d + 3) 63 [sl b (flL l) l.length, i64 id] [] = some (r, H1) ∧
    ((∃ i, IsLot l id i ∧ ∃ k, r = .tup [(lAt l i).own2 k, bl true] ∧ (¬ (lAt l i).sh.length = 0 → getR H1 k = some ⟨flS (lAt l i).sh, 66, 2, true⟩)) ∨ (NoLot l id l.length ∧ r = .tup [noLot, bl false])) := by
  refine den_of_W Tryz.func63 rfl Tryz.ntmps63 (by simp) _ Tryz.results63 ?_
  have s1 := hs.n
  repeat' (first | refine i_seq ?_ | refine k_seq ?_ | refine i_region ?_ | refine l_o ?_ | refine l_nil ?_ | (show RD _ _; refine e_do (by simp (disch := omega) only [go_sem, seval]; exact IsX.mk) ?_) | refine s_f ?_ | refine f_s ?_ | refine f_n ?_ | refine st2 ?_)
  refine i_loop (fun a : Int × Hp => upd (upd (upd (upd (upd jk 10 (i64 a.1)) 9 (i64 l.length)) 8 (sl b (flL l) l.length)) 4 (.op 0 0)) 1 (i64 id)) (fun a : Int × Hp => .row ⟨[i64 0, i64 0, i64 0, .v (.slice none 0 0)], 53, 4, true⟩ :: a.2)
    (fun a => (l.length - a.1).toNat) (fun a => 0 ≤ a.1 ∧ a.1 ≤ l.length ∧ NoLot l id a.1) (0, []) (by simp only [rounds]; omega) (by simp (disch := omega) only [go_sem, seval]) (by simp (disch := omega) only [go_sem, seval]) ⟨by simp only; omega, by simp only; omega, fun j h1 h2 => by simp only at h2; omega⟩ ?_
  rintro ⟨i, G⟩ ⟨h1, h2, h3⟩
  simp only at h1 h2 h3
  by_cases hi : i < l.length
  · have s2 := hs.s i h1 hi
    by_cases hd : (lAt l i).id = id
    · by_cases h0 : (lAt l i).sh.length = 0
      · have c := fun H => c95z d (lAt l i) H h0
        repeat' (first | refine i_seq ?_ | refine k_seq ?_ | refine i_region ?_ | refine l_o ?_ | refine l_nil ?_ | (show RD _ _; refine e_do (by simp (disch := omega) only [go_sem, seval, c, wr64]; exact IsX.mk) ?_) | refine s_f ?_ | refine f_s ?_ | refine f_n ?_ | refine st2 ?_)
        exact .inl ⟨i, ⟨h1, hi, hd, h3⟩, 0, by simp [LotD.own2, h0], fun h => absurd h0 h⟩
      · have c := fun H => c95y d (lAt l i) H s2 h0
        repeat' (first | refine i_seq ?_ | refine k_seq ?_ | refine i_region ?_ | refine l_o ?_ | refine l_nil ?_ | (show RD _ _; refine e_do (by simp (disch := omega) only [go_sem, seval, c, wr64]; exact IsX.mk) ?_) | refine s_f ?_ | refine f_s ?_ | refine f_n ?_ | refine st2 ?_)
        refine .inl ⟨i, ⟨h1, hi, hd, h3⟩, _, by simp [LotD.own2, h0]; rfl, fun h => ?_⟩
        simp (disch := omega) only [go_sem, seval]
    · repeat' (first | refine i_seq ?_ | refine k_seq ?_ | refine i_region ?_ | refine l_o ?_ | refine l_nil ?_ | (show RD _ _; refine e_do (by simp (disch := omega) only [go_sem, seval, wr64]; exact IsX.mk) ?_) | refine s_f ?_ | refine f_s ?_ | refine f_n ?_ | refine st2 ?_)
      refine k_loop (i + 1, _) (by simp only; omega) (by simp (disch := omega) only [go_sem, seval, wr64]) rfl ⟨by simp only; omega, by simp only; omega, fun j j1 j2 => ?_⟩
      simp only at j2
      by_cases e : j = i
      · subst e; assumption
      · exact h3 j j1 (by omega)
  · have : i = l.length := by omega
    subst this
    repeat' (first | refine i_seq ?_ | refine k_seq ?_ | refine i_region ?_ | refine l_o ?_ | refine l_nil ?_ | (show RD _ _; refine e_do (by simp (disch := omega) only [go_sem, seval]; exact IsX.mk) ?_) | refine s_f ?_ | refine f_s ?_ | refine f_n ?_ | refine st2 ?_)
    first | exact .inr ⟨h3, rfl⟩ | exact .inr h3
end Go.Age
end
