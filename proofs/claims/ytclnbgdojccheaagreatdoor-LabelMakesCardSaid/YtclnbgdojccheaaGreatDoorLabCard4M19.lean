/- Part of the proof of LabelMakesCardSaid. -/
import Derived.Test.YtclnbgdojccheaaGreatDoorLabCard4M18
section
set_option linter.all false
set_option linter.unusedVariables false
set_option linter.unusedSimpArgs false
set_option maxRecDepth 100000
set_option maxHeartbeats 8000000
attribute [local irreducible] Go.Den.W Go.Den.WL Go.Den.WX Go.Den.WQ Go.Den.QR Go.Den.WG Go.Den.WO Go.Den.WK Go.Den.grows Go.Den.stepOp Go.Den.callV Go.Den.den
namespace Go.Age
open Go.Den Go.Proofs
structure GrD where
  s : Int
  d : Int
instance : Inhabited GrD := ⟨⟨0, 0⟩⟩
abbrev GrD.cells (x : GrD) : List CV := [i64 x.s, i64 x.d]
def flG (l : List GrD) : List CV := l.flatMap GrD.cells
def gAt (l : List GrD) (i : Int) : GrD := l.getD i.toNat default
@[go_sem] theorem drop_flG (l : List GrD) (i : Int) (h : 0 ≤ i ∧ i < l.length) : List.drop (i.toNat * 2) (flG l) = i64 (gAt l i).s :: i64 (gAt l i).d :: List.drop ((i.toNat + 1) * 2) (flG l) :=
  drop_at GrD.cells 2 (fun _ => rfl) default l i.toNat (by omega)
theorem drop_flG1 (l : List GrD) (i : Int) (h : 0 ≤ i ∧ i < l.length) : List.drop (i.toNat * 2 + 1) (flG l) = i64 (gAt l i).d :: List.drop ((i.toNat + 1) * 2) (flG l) := by
  rw [← List.drop_drop, drop_flG l i h]; rfl
@[go_sem] theorem len_flG (l : List GrD) : (flG l).length = 2 * l.length := flat_len _ 2 (fun _ => rfl) l
def RowOk (l : List GrD) (i : Int) : Prop := 0 ≤ (gAt l i).s ∧ (gAt l i).s ≤ 10000 ∧ 50000 ≤ (gAt l i).d ∧ (gAt l i).d ≤ 120000 ∧ (i ≤ 0 ∨ ((gAt l (i - 1)).s < (gAt l i).s ∧ (gAt l i).d ≤ (gAt l (i - 1)).d))
def RightP (l : List GrD) : Prop := 2 ≤ l.length ∧ l.length ≤ 128 ∧ (∀ i : Int, 0 ≤ i → i < l.length → RowOk l i) ∧ (gAt l 0).s = 0 ∧ (gAt l ((l.length : Int) - 1)).s = 10000
theorem l132 (d : Nat) (nb : Bool) (l : List GrD) (i : Int) (hn : l.length ≤ 1000) (hi : 0 ≤ i ∧ i < l.length) : ∃ r H0, den E (d + 1) 132 [sl nb (flG l) l.length, i64 i] [] = some (r, H0) ∧ ∃ e : Int, r = i64 e ∧ (e = 0 ↔ RowOk l i) := by
  obtain ⟨h0, h1⟩ := hi
  by_cases hp : 0 < i
  · refine den_of_W Tryz.func132 rfl Tryz.ntmps132 (by simp) _ Tryz.results132 ?_
    repeat' (first | (first | refine i_seq ?_ | refine k_seq ?_ | refine i_region ?_ | refine l_o ?_ | refine l_nil ?_ | (show RD _ _; refine e_do (by simp (disch := omega) only [go_sem, seval, wr64]; exact IsX.mk) ?_) | refine s_f ?_ | refine f_s ?_ | refine f_n ?_ | refine st2 ?_) | (first | refine x2_split (fun h => ?_) (fun h => ?_) | refine q2_split (fun h => ?_) (fun h => ?_)) <;> (try simp only [beq_iff_eq, bne_iff_ne, beq_eq_false_iff_ne, bne_eq_false_iff_eq, ne_eq, decide_eq_true_eq, decide_eq_false_iff_not, gt_iff_lt, ge_iff_le, Bool.not_eq_true', Bool.not_eq_false'] at h))
    all_goals first | exact ⟨0, rfl, ⟨fun _ => by simp only [RowOk]; omega, fun _ => rfl⟩⟩ | exact ⟨_, rfl, ⟨fun h => by omega, fun h => by simp only [RowOk] at h; omega⟩⟩
  · refine den_of_W Tryz.func132 rfl Tryz.ntmps132 (by simp) _ Tryz.results132 ?_
    repeat' (first | (first | refine i_seq ?_ | refine k_seq ?_ | refine i_region ?_ | refine l_o ?_ | refine l_nil ?_ | (show RD _ _; refine e_do (by simp (disch := omega) only [go_sem, seval, wr64]; exact IsX.mk) ?_) | refine s_f ?_ | refine f_s ?_ | refine f_n ?_ | refine st2 ?_) | (first | refine x2_split (fun h => ?_) (fun h => ?_) | refine q2_split (fun h => ?_) (fun h => ?_)) <;> (try simp only [beq_iff_eq, bne_iff_ne, beq_eq_false_iff_ne, bne_eq_false_iff_eq, ne_eq, decide_eq_true_eq, decide_eq_false_iff_not, gt_iff_lt, ge_iff_le, Bool.not_eq_true', Bool.not_eq_false'] at h))
    all_goals first | exact ⟨0, rfl, ⟨fun _ => by simp only [RowOk]; omega, fun _ => rfl⟩⟩ | exact ⟨_, rfl, ⟨fun h => by omega, fun h => by simp only [RowOk] at h; omega⟩⟩
theorem l100 (d : Nat) (nb : Bool) (l : List GrD) (hn : l.length ≤ 1000) : ∃ r H0, den E (d + 2) 100 [sl nb (flG l) l.length] [] = some (r, H0) ∧ ∃ a e : Int, r = .tup [i64 a, i64 e] ∧ (e = 0 ↔ RightP l) := by
  refine den_of_W Tryz.func100 rfl Tryz.ntmps100 (by simp) _ Tryz.results100 ?_
  by_cases h1 : 128 < l.length
  · repeat' (first | refine i_seq ?_ | refine k_seq ?_ | refine i_region ?_ | refine l_o ?_ | refine l_nil ?_ | (show RD _ _; refine e_do (by simp (disch := omega) only [go_sem, seval]; exact IsX.mk) ?_) | refine s_f ?_ | refine f_s ?_ | refine f_n ?_ | refine st2 ?_)
    exact ⟨_, _, rfl, by simp only [RightP]; omega⟩
  · by_cases h2 : l.length < 2
    · repeat' (first | refine i_seq ?_ | refine k_seq ?_ | refine i_region ?_ | refine l_o ?_ | refine l_nil ?_ | (show RD _ _; refine e_do (by simp (disch := omega) only [go_sem, seval]; exact IsX.mk) ?_) | refine s_f ?_ | refine f_s ?_ | refine f_n ?_ | refine st2 ?_)
      exact ⟨_, _, rfl, by simp only [RightP]; omega⟩
    · repeat' (first | refine i_seq ?_ | refine k_seq ?_ | refine i_region ?_ | refine l_o ?_ | refine l_nil ?_ | (show RD _ _; refine e_do (by simp (disch := omega) only [go_sem, seval]; exact IsX.mk) ?_) | refine s_f ?_ | refine f_s ?_ | refine f_n ?_ | refine st2 ?_)
      refine i_loop (fun a : Int => upd (upd (upd jk 17 (i64 a)) 16 (i64 l.length)) 0 (sl nb (flG l) l.length)) (fun a : Int => [])
        (fun a => (l.length - a).toNat) (fun a => 0 ≤ a ∧ a ≤ l.length ∧ ∀ j : Int, 0 ≤ j → j < a → RowOk l j) 0 (by simp only [rounds]; omega) (by simp (disch := omega) only [go_sem, seval]) (by simp) ⟨by omega, by omega, fun j h1 h2 => by omega⟩ ?_
      rintro k ⟨q1, q2, q3⟩
      by_cases hk : k < l.length
      · obtain ⟨r, H0, g1, e, rfl, g2⟩ := l132 d nb l k hn ⟨q1, hk⟩
        have k132 : ∀ H, callV E (den E (d + 1)) 132 [sl nb (flG l) l.length, i64 k] H = some (i64 e, H) := fun H => callV_plain rfl rfl rfl (by simp (disch := omega) only [go_sem, seval]) ⟨H0, g1⟩ rfl
        by_cases he : e = 0
        · have hr := g2.1 he
          subst he
          repeat' (first | refine i_seq ?_ | refine k_seq ?_ | refine i_region ?_ | refine l_o ?_ | refine l_nil ?_ | (show RD _ _; refine e_do (by simp (disch := omega) only [go_sem, seval, wr64, k132]; exact IsX.mk) ?_) | refine s_f ?_ | refine f_s ?_ | refine f_n ?_ | refine st2 ?_)
          refine k_loop (k + 1) (by omega) (by simp (disch := omega) only [go_sem, seval, wr64]; try rfl) rfl ⟨by omega, by omega, fun j j1 j2 => ?_⟩
          by_cases ej : j = k
          · subst ej; exact hr
          · exact q3 j j1 (by omega)
        · repeat' (first | refine i_seq ?_ | refine k_seq ?_ | refine i_region ?_ | refine l_o ?_ | refine l_nil ?_ | (show RD _ _; refine e_do (by simp (disch := omega) only [go_sem, seval, wr64, k132]; exact IsX.mk) ?_) | refine s_f ?_ | refine f_s ?_ | refine f_n ?_ | refine st2 ?_)
          exact ⟨_, _, rfl, ⟨fun h => absurd h he, fun h => g2.2 (h.2.2.1 k q1 hk)⟩⟩
      · have : k = l.length := by omega
        subst this
        obtain ⟨rest, r0⟩ : ∃ rest, CV.rp (flG l) = CV.rp (i64 (gAt l 0).s :: i64 (gAt l 0).d :: rest) := ⟨_, by
          have := drop_flG l 0 (by omega)
          rw [← this]; rfl⟩
        by_cases e1 : (gAt l 0).s = 0
        · by_cases e2 : (gAt l ((l.length : Int) - 1)).s = 10000
          · repeat' (first | refine i_seq ?_ | refine k_seq ?_ | refine i_region ?_ | refine l_o ?_ | refine l_nil ?_ | (show RD _ _; refine e_do (by simp (disch := omega) only [go_sem, seval, wr64, r0, e1, e2]; exact IsX.mk) ?_) | refine s_f ?_ | refine f_s ?_ | refine f_n ?_ | refine st2 ?_)
            exact ⟨_, _, rfl, by simp only [true_iff]; exact ⟨by omega, by omega, q3, e1, e2⟩⟩
          · repeat' (first | refine i_seq ?_ | refine k_seq ?_ | refine i_region ?_ | refine l_o ?_ | refine l_nil ?_ | (show RD _ _; refine e_do (by simp (disch := omega) only [go_sem, seval, wr64, r0, e1]; exact IsX.mk) ?_) | refine s_f ?_ | refine f_s ?_ | refine f_n ?_ | refine st2 ?_)
            exact ⟨_, _, rfl, ⟨fun h => by omega, fun h => absurd h.2.2.2.2 e2⟩⟩
        · repeat' (first | refine i_seq ?_ | refine k_seq ?_ | refine i_region ?_ | refine l_o ?_ | refine l_nil ?_ | (show RD _ _; refine e_do (by simp (disch := omega) only [go_sem, seval, wr64, r0]; exact IsX.mk) ?_) | refine s_f ?_ | refine f_s ?_ | refine f_n ?_ | refine st2 ?_)
          exact ⟨_, _, rfl, ⟨fun h => by omega, fun h => absurd h.2.2.2.1 e1⟩⟩
theorem l143 (d : Nat) (nb : Bool) (l : List GrD) (hn : l.length ≤ 1000) (hr : RightP l) : ∃ H0, den E (d + 3) 143 [sl nb (flG l) l.length] [] = some (bl true, H0) := by
  obtain ⟨r, H0, g1, a, e, rfl, g2⟩ := l100 d nb l hn
  have k100 : ∀ H, callV E (den E (d + 2)) 100 [sl nb (flG l) l.length] H = some (.tup [i64 a, i64 e], H) := fun H => callV_plain rfl rfl rfl (by simp (disch := omega) only [go_sem, seval]) ⟨H0, g1⟩ rfl
  have he := g2.2 hr
  subst he
  refine den_ex Tryz.func143 rfl Tryz.ntmps143 (by simp) _ Tryz.results143 ?_
  repeat' (first | refine i_seq ?_ | refine k_seq ?_ | refine i_region ?_ | refine l_o ?_ | refine l_nil ?_ | (show RD _ _; refine e_do (by simp (disch := omega) only [go_sem, seval, k100]; exact IsX.mk) ?_) | refine s_f ?_ | refine f_s ?_ | refine f_n ?_ | refine st2 ?_)
  rfl
theorem cv_int (src dst k n) : convC E src dst (.v (.int k n)) = (match kT E src, kT E dst with
    | some (.int _), some (.int k') => some (.v (.int k' (k'.wrap n)))
    | _, _ => none) := by
  unfold convC
  cases kT E src with
  | none => rfl
  | some a => cases a <;> first | rfl | (cases kT E dst with
    | none => rfl
    | some b => cases b <;> rfl)
attribute [go_sem] cv_int
@[go_sem] theorem pow_21 : (2 : Int) ^ (min 1 64) = 2 := rfl
@[go_sem] theorem wr_u64 {n : Int} (h : 0 ≤ n ∧ n ≤ 18446744073709551615) : IntKind.wrap .u64 n = n := by
  simp [IntKind.wrap, IntKind.bits, IntKind.signed]; omega
theorem l76 (d : Nat) (n : Int) (H : Hp) (g : Nat) (caps : List CV) (p : Int → Bool) (hn : 0 ≤ n ∧ n ≤ 1000000)
    (hc : ∀ j : Int, 0 ≤ j → j < n → callV E (den E (d + 1)) g (i64 j :: caps) H = some (bl (p j), H)) :
    ∃ r, callV E (den E (d + 2)) 76 [i64 n, .fn g caps] H = some (i64 r, H) ∧ 0 ≤ r ∧ r ≤ n ∧ (r < n → p r = true) ∧ (0 < r → p (r - 1) = false) := by
  have : ∃ c H', den E (d + 2) 76 [i64 n, .fn g caps] H = some (c, H') ∧ (∃ r : Int, c = i64 r ∧ H' = H ∧ 0 ≤ r ∧ r ≤ n ∧ (r < n → p r = true) ∧ (0 < r → p (r - 1) = false)) := by
    refine den_of_W Tryz.func76 rfl Tryz.ntmps76 (by simp) _ Tryz.results76 ?_
    repeat' (first | refine i_seq ?_ | refine k_seq ?_ | refine i_region ?_ | refine l_o ?_ | refine l_nil ?_ | (show RD _ _; refine e_do (by simp (disch := omega) only [go_sem, seval]; exact IsX.mk) ?_) | refine s_f ?_ | refine f_s ?_ | refine f_n ?_ | refine st2 ?_)
    refine i_loop (fun a : Int × Int => upd (upd (upd jk 6 (i64 a.2)) 5 (i64 a.1)) 1 (.fn g caps)) (fun a : Int × Int => H)
      (fun a => (a.2 - a.1).toNat) (fun a => 0 ≤ a.1 ∧ a.1 ≤ a.2 ∧ a.2 ≤ n ∧ (a.2 < n → p a.2 = true) ∧ (0 < a.1 → p (a.1 - 1) = false)) (0, n) (by simp only [rounds]; omega) (by simp (disch := omega) only [go_sem, seval]) (by first | rfl | simp) ⟨by simp only; omega, by simp only; omega, by simp only; omega, fun h => by simp only at h; omega, fun h => by simp only at h; omega⟩ ?_
    rintro ⟨a, b⟩ ⟨q1, q2, q3, q4, q5⟩
    simp only at q1 q2 q3 q4 q5
    by_cases hk : a < b
    · have kc := hc ((a + b) / 2) (by omega) (by omega)
      by_cases e : p ((a + b) / 2) = true
      · rw [e] at kc
        repeat' (first | refine i_seq ?_ | refine k_seq ?_ | refine i_region ?_ | refine l_o ?_ | refine l_nil ?_ | (show RD _ _; refine e_do (by simp (disch := omega) only [go_sem, seval, wr64, kc]; exact IsX.mk) ?_) | refine s_f ?_ | refine f_s ?_ | refine f_n ?_ | refine st2 ?_)
        refine k_loop (a, (a + b) / 2) (by simp only; omega) (by simp (disch := omega) only [go_sem, seval, wr64]; try rfl) rfl ⟨by simp only; omega, by simp only; omega, by simp only; omega, fun _ => e, q5⟩
      · have e := Bool.eq_false_iff.2 e
        rw [e] at kc
        repeat' (first | refine i_seq ?_ | refine k_seq ?_ | refine i_region ?_ | refine l_o ?_ | refine l_nil ?_ | (show RD _ _; refine e_do (by simp (disch := omega) only [go_sem, seval, wr64, kc]; exact IsX.mk) ?_) | refine s_f ?_ | refine f_s ?_ | refine f_n ?_ | refine st2 ?_)
        refine k_loop ((a + b) / 2 + 1, b) (by simp only; omega) (by simp (disch := omega) only [go_sem, seval, wr64]; try rfl) rfl ⟨by simp only; omega, by simp only; omega, by simp only; omega, q4, fun _ => by simp only; rw [show (a + b) / 2 + 1 - 1 = (a + b) / 2 by omega]; exact e⟩
    · have : a = b := by omega
      subst this
      repeat' (first | refine i_seq ?_ | refine k_seq ?_ | refine i_region ?_ | refine l_o ?_ | refine l_nil ?_ | (show RD _ _; refine e_do (by simp (disch := omega) only [go_sem, seval]; exact IsX.mk) ?_) | refine s_f ?_ | refine f_s ?_ | refine f_n ?_ | refine st2 ?_)
      exact ⟨a, rfl, rfl, q1, q3, q4, q5⟩
  obtain ⟨c, H', h1, r, rfl, rfl, h2⟩ := this
  exact ⟨r, callV_inl rfl rfl h1, h2⟩
end Go.Age
end
section
set_option linter.all false
set_option linter.unusedVariables false
namespace Go.Age
open Go.Den
def lineV (a b : GrD) (s : Int) : Int := (2 * (a.d * (b.s - s) + b.d * (s - a.s)) + (b.s - a.s)) / (2 * (b.s - a.s))
theorem line_n {a b : GrD} {s : Int} (h0 : a.s ≤ s) (h1 : s ≤ b.s) (hd : b.d ≤ a.d) : b.d * (b.s - a.s) ≤ a.d * (b.s - s) + b.d * (s - a.s) ∧ a.d * (b.s - s) + b.d * (s - a.s) ≤ a.d * (b.s - a.s) := by
  have e1 : b.d * (b.s - s) ≤ a.d * (b.s - s) := Int.mul_le_mul_of_nonneg_right hd (by omega)
  have e2 : b.d * (s - a.s) ≤ a.d * (s - a.s) := Int.mul_le_mul_of_nonneg_right hd (by omega)
  have e3 : b.d * (b.s - a.s) = b.d * (b.s - s) + b.d * (s - a.s) := by rw [← Int.mul_add]; congr 1; omega
  have e4 : a.d * (b.s - a.s) = a.d * (b.s - s) + a.d * (s - a.s) := by rw [← Int.mul_add]; congr 1; omega
  omega
theorem line_hi {a b : GrD} {s : Int} (hs : a.s < b.s) (h0 : a.s ≤ s) (h1 : s ≤ b.s) (hd : b.d ≤ a.d) : lineV a b s ≤ a.d := by
  have h := (line_n h0 h1 hd).2
  have : lineV a b s < a.d + 1 := by
    refine Int.ediv_lt_of_lt_mul (by omega) ?_
    have : (a.d + 1) * (2 * (b.s - a.s)) = 2 * (a.d * (b.s - a.s)) + 2 * (b.s - a.s) := by
      rw [Int.add_mul, Int.one_mul, Int.mul_left_comm]
    omega
  omega
theorem line_lo {a b : GrD} {s : Int} (hs : a.s < b.s) (h0 : a.s ≤ s) (h1 : s ≤ b.s) (hd : b.d ≤ a.d) : b.d ≤ lineV a b s := by
  have h := (line_n h0 h1 hd).1
  refine Int.le_ediv_of_mul_le (by omega) ?_
  rw [Int.mul_left_comm]
  omega
theorem line_le {a b : GrD} {s s' : Int} (hs : a.s < b.s) (h : s ≤ s') (hd : b.d ≤ a.d) : lineV a b s' ≤ lineV a b s := by
  refine Int.ediv_le_ediv (by omega) ?_
  have e1 : a.d * (b.s - s) = a.d * (b.s - s') + a.d * (s' - s) := by rw [← Int.mul_add]; congr 1; omega
  have e2 : b.d * (s' - a.s) = b.d * (s - a.s) + b.d * (s' - s) := by rw [← Int.mul_add]; congr 1; omega
  have e3 : b.d * (s' - s) ≤ a.d * (s' - s) := Int.mul_le_mul_of_nonneg_right hd (by omega)
  omega
theorem line_ref (a b : GrD) (s : Int) : a.d * (b.s - a.s) + (b.d - a.d) * (s - a.s) = a.d * (b.s - s) + b.d * (s - a.s) := by
  have e1 : a.d * (b.s - a.s) = a.d * (b.s - s) + a.d * (s - a.s) := by rw [← Int.mul_add]; congr 1; omega
  rw [e1, Int.sub_mul]; omega
theorem row_mono {l : List GrD} (hr : RightP l) {i : Int} (h0 : 0 ≤ i) : ∀ n : Nat, i + 1 + n < l.length → (gAt l i).s < (gAt l (i + 1 + n)).s ∧ (gAt l (i + 1 + n)).d ≤ (gAt l i).d
  | 0, h => by
    have := (hr.2.2.1 (i + 1) (by omega) (by omega)).2.2.2.2.resolve_left (by omega)
    rw [show i + 1 - 1 = i by omega] at this
    rw [show i + 1 + ((0 : Nat) : Int) = i + 1 by omega]
    exact this
  | n + 1, h => by
    have ih := row_mono hr h0 n (by omega)
    have := (hr.2.2.1 (i + 1 + (n + 1 : Nat)) (by omega) (by omega)).2.2.2.2.resolve_left (by omega)
    rw [show i + 1 + ((n + 1 : Nat) : Int) - 1 = i + 1 + n by omega] at this
    omega
theorem row_lt {l : List GrD} (hr : RightP l) {i j : Int} (h0 : 0 ≤ i) (h1 : i < j) (h2 : j < l.length) : (gAt l i).s < (gAt l j).s ∧ (gAt l j).d ≤ (gAt l i).d := by
  have := row_mono hr h0 (j - i - 1).toNat (by omega)
  rwa [show i + 1 + ((j - i - 1).toNat : Int) = j by omega] at this
theorem row_le {l : List GrD} (hr : RightP l) {i j : Int} (h0 : 0 ≤ i) (h1 : i ≤ j) (h2 : j < l.length) : (gAt l i).s ≤ (gAt l j).s ∧ (gAt l j).d ≤ (gAt l i).d := by
  rcases Int.lt_or_eq_of_le h1 with h | h
  · have := row_lt hr h0 h h2; omega
  · subst h; omega
def DensAt (l : List GrD) (s r : Int) : Prop := 0 ≤ r ∧ r < l.length ∧ s ≤ (gAt l r).s ∧ (0 < r → (gAt l (r - 1)).s < s)
def densV (l : List GrD) (s r : Int) : Int := if (gAt l r).s = s then (gAt l r).d else lineV (gAt l (r - 1)) (gAt l r) s
theorem DensAt.le {l : List GrD} (hr : RightP l) {s s' r r' : Int} (h : DensAt l s r) (h' : DensAt l s' r') (hs : s ≤ s') : r ≤ r' := by
  obtain ⟨a1, a2, a3, a4⟩ := h
  obtain ⟨b1, b2, b3, b4⟩ := h'
  rcases Int.lt_or_le r' r with e | e
  · have := row_le hr b1 (show r' ≤ r - 1 by omega) (by omega)
    have := a4 (by omega)
    omega
  · exact e
theorem DensAt.uniq {l : List GrD} (hr : RightP l) {s r r' : Int} (h : DensAt l s r) (h' : DensAt l s r') : r = r' := by
  have := h.le hr h' (Int.le_refl _)
  have := h'.le hr h (Int.le_refl _)
  omega
theorem dens_ex {l : List GrD} (hr : RightP l) {s : Int} (hs : s ≤ 10000) : ∃ r, DensAt l s r := by
  have key : ∀ n : Nat, n ≤ l.length → (∃ r, DensAt l s r) ∨ ∀ j : Int, 0 ≤ j → j < n → (gAt l j).s < s := by
    intro n
    induction n with
    | zero => exact fun _ => .inr fun j h0 h1 => by omega
    | succ n ih =>
      intro hn
      rcases ih (by omega) with h | h
      · exact .inl h
      · by_cases e : (gAt l n).s < s
        · refine .inr fun j h0 h1 => ?_
          by_cases ej : j = n
          · subst ej; exact e
          · exact h j h0 (by omega)
        · exact .inl ⟨n, by omega, by omega, by omega, fun _ => h _ (by omega) (by omega)⟩
  rcases key l.length (Nat.le_refl _) with h | h
  · exact h
  · have := h ((l.length : Int) - 1) (by have := hr.1; omega) (by omega)
    rw [hr.2.2.2.2] at this
    omega
open Classical in
noncomputable def densR (l : List GrD) (s : Int) : Int := if h : ∃ r, DensAt l s r then densV l s h.choose else 0
theorem dens_is {l : List GrD} (hr : RightP l) {s r : Int} (h : DensAt l s r) : densR l s = densV l s r := by
  have hx : ∃ r, DensAt l s r := ⟨r, h⟩
  unfold densR
  rw [dif_pos hx, hx.choose_spec.uniq hr h]
theorem seg_ok {l : List GrD} (hr : RightP l) {s r : Int} (h0 : 0 ≤ s) (h : DensAt l s r) (hne : ¬ (gAt l r).s = s) : 0 < r ∧ (gAt l (r - 1)).s < s ∧ s < (gAt l r).s ∧ (gAt l (r - 1)).s < (gAt l r).s ∧ (gAt l r).d ≤ (gAt l (r - 1)).d := by
  obtain ⟨a1, a2, a3, a4⟩ := h
  have rp : 0 < r := by
    rcases Int.lt_or_eq_of_le a1 with e | e
    · exact e
    · have := hr.2.2.2.1
      rw [← e] at a3 hne; omega
  have := row_lt hr (show 0 ≤ r - 1 by omega) (show r - 1 < r by omega) a2
  have := a4 rp
  omega
theorem dens_bd {l : List GrD} (hr : RightP l) {s : Int} (h0 : 0 ≤ s) (h1 : s ≤ 10000) : 50000 ≤ densR l s ∧ densR l s ≤ 120000 := by
  obtain ⟨r, h⟩ := dens_ex hr h1
  rw [dens_is hr h]
  have hrow := hr.2.2.1 r h.1 h.2.1
  unfold densV
  split
  · simp only [RowOk] at hrow; omega
  · rename_i hne
    obtain ⟨rp, q1, q2, q3, q4⟩ := seg_ok hr h0 h hne
    have hrow' := hr.2.2.1 (r - 1) (by omega) (by have := h.2.1; omega)
    have e1 := line_hi q3 (Int.le_of_lt q1) (Int.le_of_lt q2) q4
    have e2 := line_lo q3 (Int.le_of_lt q1) (Int.le_of_lt q2) q4
    simp only [RowOk] at hrow hrow'
    omega
theorem dens_anti {l : List GrD} (hr : RightP l) {s s' : Int} (h0 : 0 ≤ s) (h : s ≤ s') (h1 : s' ≤ 10000) : densR l s' ≤ densR l s := by
  obtain ⟨r, hd⟩ := dens_ex hr (show s ≤ 10000 by omega)
  obtain ⟨r', hd'⟩ := dens_ex hr h1
  rw [dens_is hr hd, dens_is hr hd']
  have hle := hd.le hr hd' h
  by_cases e : r = r'
  · subst e
    unfold densV
    by_cases e1 : (gAt l r).s = s
    · have := hd'.2.2.1
      rw [if_pos e1, if_pos (by omega)]; omega
    · obtain ⟨rp, q1, q2, q3, q4⟩ := seg_ok hr h0 hd e1
      rw [if_neg e1]
      by_cases e2 : (gAt l r).s = s'
      · rw [if_pos e2]
        exact line_lo q3 (Int.le_of_lt q1) (Int.le_of_lt q2) q4
      · rw [if_neg e2]
        exact line_le q3 h q4
  · have a1 : (gAt l r).d ≤ densV l s r := by
      unfold densV
      split
      · omega
      · rename_i hne
        obtain ⟨rp, q1, q2, q3, q4⟩ := seg_ok hr h0 hd hne
        exact line_lo q3 (Int.le_of_lt q1) (Int.le_of_lt q2) q4
    have a2 : densV l s' r' ≤ (gAt l (r' - 1)).d := by
      have hx := row_lt hr (show 0 ≤ r' - 1 by have := hd.1; omega) (show r' - 1 < r' by omega) hd'.2.1
      unfold densV
      split
      · omega
      · rename_i hne
        obtain ⟨rp, q1, q2, q3, q4⟩ := seg_ok hr (by omega) hd' hne
        exact line_hi q3 (Int.le_of_lt q1) (Int.le_of_lt q2) q4
    have a3 := row_le hr hd.1 (show r ≤ r' - 1 by omega) (by have := hd'.2.1; omega)
    omega
def StrIs (l : List GrD) (a m s : Int) : Prop := 0 ≤ s ∧ s ≤ 10000 ∧ m * s ≤ a * densR l s ∧ (s < 10000 → a * densR l (s + 1) < m * (s + 1))
theorem weak_mono {l : List GrD} (hr : RightP l) {a m s s' : Int} (ha : 0 ≤ a) (hm : 0 ≤ m) (h0 : 0 ≤ s) (h : s ≤ s') (h1 : s' ≤ 10000) (hw : a * densR l s < m * s) : a * densR l s' < m * s' := by
  have e1 : a * densR l s' ≤ a * densR l s := Int.mul_le_mul_of_nonneg_left (dens_anti hr h0 h h1) ha
  have e2 : m * s ≤ m * s' := Int.mul_le_mul_of_nonneg_left h hm
  omega
theorem StrIs.uniq {l : List GrD} (hr : RightP l) {a m s s' : Int} (ha : 0 ≤ a) (hm : 0 ≤ m) (h : StrIs l a m s) (h' : StrIs l a m s') : s = s' := by
  obtain ⟨a1, a2, a3, a4⟩ := h
  obtain ⟨b1, b2, b3, b4⟩ := h'
  rcases Int.lt_trichotomy s s' with e | e | e
  · have := weak_mono hr ha hm (by omega) (show s + 1 ≤ s' by omega) b2 (a4 (by omega))
    omega
  · exact e
  · have := weak_mono hr ha hm (by omega) (show s' + 1 ≤ s by omega) a2 (b4 (by omega))
    omega
open Classical in
noncomputable def strR (l : List GrD) (a m : Int) : Int := if h : ¬ m = 0 ∧ ∃ s, StrIs l a m s then h.2.choose else 0
theorem str_is {l : List GrD} (hr : RightP l) {a m s : Int} (ha : 0 ≤ a) (hm : 0 ≤ m) (hm0 : ¬ m = 0) (h : StrIs l a m s) : strR l a m = s := by
  have hx : ¬ m = 0 ∧ ∃ s, StrIs l a m s := ⟨hm0, s, h⟩
  unfold strR
  rw [dif_pos hx]
  exact hx.2.choose_spec.uniq hr ha hm h
theorem str_zero (l : List GrD) (a : Int) : strR l a 0 = 0 := by
  unfold strR
  rw [dif_neg (by simp)]
open Classical in
theorem str_bd (l : List GrD) (a m : Int) : 0 ≤ strR l a m ∧ strR l a m ≤ 10000 := by
  unfold strR
  split
  · rename_i h
    have := h.2.choose_spec
    exact ⟨this.1, this.2.1⟩
  · omega
open Classical in
noncomputable def chkR (l : List GrD) (a m : Int) : Int := if ¬ RightP l then 1 else if a < 0 ∨ 10737418240000 < a ∨ m < 0 ∨ 128849018880000 < m then 2 else if m * 10000 < a * densR l 10000 then 10 else 0
theorem chk_inv {l : List GrD} {a m : Int} (h : chkR l a m = 0) : RightP l ∧ (0 ≤ a ∧ a ≤ 10737418240000) ∧ (0 ≤ m ∧ m ≤ 128849018880000) ∧ a * densR l 10000 ≤ m * 10000 := by
  unfold chkR at h
  split at h
  · cases h
  · rename_i h1
    split at h
    · cases h
    · split at h
      · cases h
      · exact ⟨Classical.not_not.1 h1, by omega, by omega, by omega⟩
end Go.Age
end
section
set_option linter.all false
set_option linter.unusedVariables false
set_option linter.unusedSimpArgs false
set_option maxRecDepth 100000
set_option maxHeartbeats 8000000
attribute [local irreducible] Go.Den.W Go.Den.WL Go.Den.WX Go.Den.WQ Go.Den.QR Go.Den.WG Go.Den.WO Go.Den.WK Go.Den.grows Go.Den.stepOp Go.Den.callV Go.Den.den
namespace Go.Age
open Go.Den Go.Proofs
theorem line_bd {a b : GrD} {s : Int} (h0 : 0 ≤ a.s) (hs : a.s < b.s) (h2 : b.s ≤ 10000) (h3 : a.s ≤ s) (h4 : s ≤ b.s) (hd0 : 50000 ≤ b.d) (hd : b.d ≤ a.d) (hd1 : a.d ≤ 120000) :
    (0 ≤ a.d * (b.s - s) ∧ a.d * (b.s - s) ≤ 1200000000) ∧ (0 ≤ b.d * (s - a.s) ∧ b.d * (s - a.s) ≤ 1200000000) ∧
    (50000 ≤ (2 * (a.d * (b.s - s) + b.d * (s - a.s)) + (b.s - a.s)) / (2 * (b.s - a.s)) ∧ (2 * (a.d * (b.s - s) + b.d * (s - a.s)) + (b.s - a.s)) / (2 * (b.s - a.s)) ≤ 120000) := by
  have e1 := line_hi hs h3 h4 hd
  have e2 := line_lo hs h3 h4 hd
  unfold lineV at e1 e2
  refine ⟨⟨Int.mul_nonneg (by omega) (by omega), ?_⟩, ⟨Int.mul_nonneg (by omega) (by omega), ?_⟩, by omega, by omega⟩
  · have := Int.mul_le_mul hd1 (show b.s - s ≤ 10000 by omega) (by omega) (by omega)
    omega
  · have := Int.mul_le_mul (show b.d ≤ 120000 by omega) (show s - a.s ≤ 10000 by omega) (by omega) (by omega)
    omega
@[go_sem] theorem scal_pure (x : Value) : scal (pure x) = some (.v x) := rfl
theorem eq_liq (a m a' m' : Int) : binC E .eql 50 (.agg [i64 a, i64 m]) (.agg [i64 a', i64 m']) = some (.v (.bool (decide (a = a' ∧ m = m')))) := by
  have h1 : kT E 50 = some (.struct [(0, 3), (1, 3)] true) := by simp (disch := omega) only [go_sem, seval]
  have h2 : kindsOf E [(0, 3), (1, 3)] = some [.int .i64, .int .i64] := by unfold kindsOf; rw [if_pos (by decide)]; simp (disch := omega) only [go_sem, seval]
  have h3 : binC E .eql 50 (.agg [i64 a, i64 m]) (.agg [i64 a', i64 m']) = some (.v (.bool (a == a' && (m == m' && true)))) := by
    simp only [binC, isNilV, Bool.false_eq_true, if_false, h1, h2]
    rfl
  rw [h3]
  by_cases h1 : a = a' <;> by_cases h2 : m = m' <;> simp [h1, h2]
theorem l170 (d : Nat) (a b : GrD) (s : Int) (h0 : 0 ≤ a.s) (hs : a.s < b.s) (h2 : b.s ≤ 10000) (h3 : a.s ≤ s) (h4 : s ≤ b.s) (hd0 : 50000 ≤ b.d) (hd : b.d ≤ a.d) (hd1 : a.d ≤ 120000) : ∃ H0, den E (d + 1) 170 [.agg a.cells, .agg b.cells, i64 s] [] = some (i64 (lineV a b s), H0) := by
  obtain ⟨p1, p2, p3⟩ := line_bd h0 hs h2 h3 h4 hd0 hd hd1
  have hne : ¬ 2 * (b.s - a.s) = 0 := by omega
  refine den_ex Tryz.func170 rfl Tryz.ntmps170 (by simp) _ Tryz.results170 ?_
  repeat' (first | refine i_seq ?_ | refine k_seq ?_ | refine i_region ?_ | refine l_o ?_ | refine l_nil ?_ | (show RD _ _; refine e_do (by simp (disch := omega) only [go_sem, seval, wr64, td, hne]; exact IsX.mk) ?_) | refine s_f ?_ | refine f_s ?_ | refine f_n ?_ | refine st2 ?_)
  rfl
theorem l169 (d : Nat) (nb : Bool) (l : List GrD) {H : Hp} {b b' : Nat} {s j : Int} {lv lv' : Bool} (hn : l.length ≤ 1000) (hb : getR H b = some ⟨[sl nb (flG l) l.length], 38, 1, lv⟩) (hs : getR H b' = some ⟨[i64 s], 3, 1, lv'⟩) (h0 : 0 ≤ j) (h1 : j < l.length) :
    den E (d + 1) 169 [i64 j, .op b 0, .op b' 0] H = some (bl (decide (s ≤ (gAt l j).s)), H) := by
  refine den_eq Tryz.func169 rfl Tryz.ntmps169 (by simp) _ Tryz.results169 ?_
  repeat' (first | refine i_seq ?_ | refine k_seq ?_ | refine i_region ?_ | refine l_o ?_ | refine l_nil ?_ | (show RD _ _; refine e_do (by simp (disch := omega) only [go_sem, seval, hb, hs]; exact IsX.mk) ?_) | refine s_f ?_ | refine f_s ?_ | refine f_n ?_ | refine st2 ?_)
  exact ⟨rfl, rfl⟩
theorem l144 (d : Nat) (nb : Bool) (l : List GrD) (s : Int) (hr : RightP l) (h0 : 0 ≤ s) (h1 : s ≤ 10000) : ∃ H0, den E (d + 3) 144 [sl nb (flG l) l.length, i64 s] [] = some (i64 (densR l s), H0) := by
  have r1 := hr.1
  have r2 := hr.2.1
  obtain ⟨i, k76, g0, g1, g2, g3⟩ := l76 d l.length [.row ⟨[sl nb (flG l) l.length], 38, 1, true⟩, .row ⟨[i64 s], 3, 1, true⟩] 169 [.op 0 0, .op 1 0] (fun j => decide (s ≤ (gAt l j).s)) (by omega) (fun j j0 j1 => callV_inl rfl rfl (l169 d nb l (by omega) rfl rfl j0 j1))
  simp only [decide_eq_true_eq, decide_eq_false_iff_not] at g2 g3
  have hi : i < l.length := by
    rcases Int.lt_or_eq_of_le g1 with h | h
    · exact h
    · have := g3 (by omega)
      rw [h, hr.2.2.2.2] at this
      omega
  have hda : DensAt l s i := ⟨g0, hi, g2 hi, fun h => by have := g3 h; omega⟩
  have hv := dens_is hr hda
  unfold densV at hv
  by_cases e : (gAt l i).s = s
  · rw [if_pos e] at hv
    rw [hv]
    refine den_ex Tryz.func144 rfl Tryz.ntmps144 (by simp) _ Tryz.results144 ?_
    repeat' (first | refine i_seq ?_ | refine k_seq ?_ | refine i_region ?_ | refine l_o ?_ | refine l_nil ?_ | (show RD _ _; refine e_do (by simp (disch := omega) only [go_sem, seval, k76, drop_flG1]; exact IsX.mk) ?_) | refine s_f ?_ | refine f_s ?_ | refine f_n ?_ | refine st2 ?_)
    rfl
  · rw [if_neg e] at hv
    rw [hv]
    obtain ⟨ip, q1, q2, q3, q4⟩ := seg_ok hr h0 hda e
    have w1 := hr.2.2.1 i g0 hi
    have w2 := hr.2.2.1 (i - 1) (by omega) (by omega)
    simp only [RowOk] at w1 w2
    obtain ⟨H0, k⟩ := l170 (d + 1) (gAt l (i - 1)) (gAt l i) s (by omega) q3 (by omega) (by omega) (by omega) (by omega) q4 (by omega)
    have k170 : ∀ H, callV E (den E (d + 2)) 170 [.agg (gAt l (i - 1)).cells, .agg (gAt l i).cells, i64 s] H = some (i64 (lineV (gAt l (i - 1)) (gAt l i) s), H) := fun H => callV_plain rfl rfl rfl (by simp (disch := omega) only [go_sem, seval]) ⟨H0, k⟩ rfl
    refine den_ex Tryz.func144 rfl Tryz.ntmps144 (by simp) _ Tryz.results144 ?_
    repeat' (first | refine i_seq ?_ | refine k_seq ?_ | refine i_region ?_ | refine l_o ?_ | refine l_nil ?_ | (show RD _ _; refine e_do (by simp (disch := omega) only [go_sem, seval, wr64, k76, k170]; exact IsX.mk) ?_) | refine s_f ?_ | refine f_s ?_ | refine f_n ?_ | refine st2 ?_)
    rfl
theorem l119 (d : Nat) (nb : Bool) (l : List GrD) (s : Int) (hr : RightP l) (h0 : 0 ≤ s) (h1 : s ≤ 10000) : ∃ H0, den E (d + 4) 119 [sl nb (flG l) l.length, i64 s] [] = some (.tup [i64 (densR l s), i64 0], H0) := by
  have r2 := hr.2.1
  obtain ⟨H0, a1⟩ := l143 d nb l (by omega) hr
  have k143 : ∀ H, callV E (den E (d + 3)) 143 [sl nb (flG l) l.length] H = some (bl true, H) := fun H => callV_plain rfl rfl rfl (by simp (disch := omega) only [go_sem, seval]) ⟨H0, a1⟩ rfl
  obtain ⟨H1, b1⟩ := l144 d nb l s hr h0 h1
  have k144 : ∀ H, callV E (den E (d + 3)) 144 [sl nb (flG l) l.length, i64 s] H = some (i64 (densR l s), H) := fun H => callV_plain rfl rfl rfl (by simp (disch := omega) only [go_sem, seval]) ⟨H1, b1⟩ rfl
  refine den_ex Tryz.func119 rfl Tryz.ntmps119 (by simp) _ Tryz.results119 ?_
  repeat' (first | refine i_seq ?_ | refine k_seq ?_ | refine i_region ?_ | refine l_o ?_ | refine l_nil ?_ | (show RD _ _; refine e_do (by simp (disch := omega) only [go_sem, seval, k143, k144]; exact IsX.mk) ?_) | refine s_f ?_ | refine f_s ?_ | refine f_n ?_ | refine st2 ?_)
  rfl
theorem l75 (d : Nat) (nb : Bool) (l : List GrD) (s : Int) (hr : RightP l) (h0 : 0 ≤ s) (h1 : s ≤ 10000) (H : Hp) : callV E (den E (d + 5)) 75 [sl nb (flG l) l.length, i64 s] H = some (i64 (densR l s), H) := by
  obtain ⟨H1, b1⟩ := l119 d nb l s hr h0 h1
  have k119 : ∀ H, callV E (den E (d + 4)) 119 [sl nb (flG l) l.length, i64 s] H = some (.tup [i64 (densR l s), i64 0], H) := fun H => callV_plain rfl rfl rfl (by simp (disch := omega) only [go_sem, seval]) ⟨H1, b1⟩ rfl
  refine callV_plain (args' := [sl nb (flG l) l.length, i64 s]) rfl rfl rfl (by simp (disch := omega) only [go_sem, seval]) ?_ rfl
  refine den_ex Tryz.func75 rfl Tryz.ntmps75 (by simp) _ Tryz.results75 ?_
  repeat' (first | refine i_seq ?_ | refine k_seq ?_ | refine i_region ?_ | refine l_o ?_ | refine l_nil ?_ | (show RD _ _; refine e_do (by simp (disch := omega) only [go_sem, seval, k119]; exact IsX.mk) ?_) | refine s_f ?_ | refine f_s ?_ | refine f_n ?_ | refine st2 ?_)
  rfl
theorem prod_bd {a x A X : Int} (a0 : 0 ≤ a) (a1 : a ≤ A) (x0 : 0 ≤ x) (x1 : x ≤ X) : 0 ≤ a * x ∧ a * x ≤ A * X :=
  ⟨Int.mul_nonneg a0 x0, Int.mul_le_mul a1 x1 x0 (by omega)⟩
theorem l73 (d : Nat) (nb : Bool) (l : List GrD) (a m : Int) (hn : l.length ≤ 1000) (H : Hp) : callV E (den E (d + 6)) 73 [sl nb (flG l) l.length, .agg [i64 a, i64 m]] H = some (i64 (chkR l a m), H) := by
  refine callV_plain (args' := [sl nb (flG l) l.length, .agg [i64 a, i64 m]]) rfl rfl rfl (by simp (disch := omega) only [go_sem, seval]) ?_ rfl
  obtain ⟨r, H0, g1, x, e, rfl, g2⟩ := l100 (d + 3) nb l hn
  have k100 : ∀ H, callV E (den E (d + 5)) 100 [sl nb (flG l) l.length] H = some (.tup [i64 x, i64 e], H) := fun H => callV_plain rfl rfl rfl (by simp (disch := omega) only [go_sem, seval]) ⟨H0, g1⟩ rfl
  by_cases he : e = 0
  · have hr := g2.1 he
    subst he
    have k75 := l75 d nb l 10000 hr (by omega) (by omega)
    have db := dens_bd hr (show 0 ≤ (10000 : Int) by omega) (by omega)
    by_cases hb : a < 0 ∨ 10737418240000 < a ∨ m < 0 ∨ 128849018880000 < m
    · have ec : chkR l a m = 2 := by unfold chkR; rw [if_neg (Classical.not_not.2 hr), if_pos hb]
      rw [ec]
      refine den_ex Tryz.func73 rfl Tryz.ntmps73 (by simp) _ Tryz.results73 ?_
      repeat' (first | (first | refine i_seq ?_ | refine k_seq ?_ | refine i_region ?_ | refine l_o ?_ | refine l_nil ?_ | (show RD _ _; refine e_do (by simp (disch := omega) only [go_sem, seval, k100]; exact IsX.mk) ?_) | refine s_f ?_ | refine f_s ?_ | refine f_n ?_ | refine st2 ?_) | (first | refine x2_split (fun h => ?_) (fun h => ?_) | refine q2_split (fun h => ?_) (fun h => ?_)) <;> (try simp only [beq_iff_eq, bne_iff_ne, beq_eq_false_iff_ne, bne_eq_false_iff_eq, ne_eq, decide_eq_true_eq, decide_eq_false_iff_not, gt_iff_lt, ge_iff_le, Bool.not_eq_true', Bool.not_eq_false'] at h))
      all_goals first | rfl | (exfalso; omega)
    · have pb := prod_bd (show 0 ≤ a by omega) (show a ≤ 10737418240000 by omega) (show 0 ≤ densR l 10000 by omega) db.2
      by_cases hc : m * 10000 < a * densR l 10000
      · have ec : chkR l a m = 10 := by unfold chkR; rw [if_neg (Classical.not_not.2 hr), if_neg hb, if_pos hc]
        rw [ec]
        refine den_ex Tryz.func73 rfl Tryz.ntmps73 (by simp) _ Tryz.results73 ?_
        repeat' (first | refine i_seq ?_ | refine k_seq ?_ | refine i_region ?_ | refine l_o ?_ | refine l_nil ?_ | (show RD _ _; refine e_do (by simp (disch := omega) only [go_sem, seval, k100, k75, wr64]; exact IsX.mk) ?_) | refine s_f ?_ | refine f_s ?_ | refine f_n ?_ | refine st2 ?_)
        rfl
      · have ec : chkR l a m = 0 := by unfold chkR; rw [if_neg (Classical.not_not.2 hr), if_neg hb, if_neg hc]
        rw [ec]
        refine den_ex Tryz.func73 rfl Tryz.ntmps73 (by simp) _ Tryz.results73 ?_
        repeat' (first | refine i_seq ?_ | refine k_seq ?_ | refine i_region ?_ | refine l_o ?_ | refine l_nil ?_ | (show RD _ _; refine e_do (by simp (disch := omega) only [go_sem, seval, k100, k75, wr64]; exact IsX.mk) ?_) | refine s_f ?_ | refine f_s ?_ | refine f_n ?_ | refine st2 ?_)
        rfl
  · have ec : chkR l a m = 1 := by unfold chkR; rw [if_pos (fun h => he (g2.2 h))]
    rw [ec]
    refine den_ex Tryz.func73 rfl Tryz.ntmps73 (by simp) _ Tryz.results73 ?_
    repeat' (first | refine i_seq ?_ | refine k_seq ?_ | refine i_region ?_ | refine l_o ?_ | refine l_nil ?_ | (show RD _ _; refine e_do (by simp (disch := omega) only [go_sem, seval, k100]; exact IsX.mk) ?_) | refine s_f ?_ | refine f_s ?_ | refine f_n ?_ | refine st2 ?_)
    rfl
theorem l74 (d : Nat) (nb : Bool) (l : List GrD) {H : Hp} {b b' : Nat} {a m j : Int} {lv lv' : Bool} (hr : RightP l) (ha : 0 ≤ a ∧ a ≤ 10737418240000) (hm : 0 ≤ m ∧ m ≤ 128849018880000) (hb : getR H b = some ⟨[i64 a, i64 m], 50, 2, lv⟩) (hs : getR H b' = some ⟨[sl nb (flG l) l.length], 38, 1, lv'⟩) (h0 : 0 ≤ j) (h1 : j ≤ 10000) :
    den E (d + 6) 74 [i64 j, .op b 0, .op b' 0] H = some (bl (decide (a * densR l j < m * j)), H) := by
  have k75 := l75 d nb l j hr h0 h1
  have db := dens_bd hr h0 h1
  have pb := prod_bd ha.1 ha.2 (show 0 ≤ densR l j by omega) db.2
  have pc := prod_bd hm.1 hm.2 h0 h1
  refine den_eq Tryz.func74 rfl Tryz.ntmps74 (by simp) _ Tryz.results74 ?_
  repeat' (first | refine i_seq ?_ | refine k_seq ?_ | refine i_region ?_ | refine l_o ?_ | refine l_nil ?_ | (show RD _ _; refine e_do (by simp (disch := omega) only [go_sem, seval, hb, hs, k75, wr64]; exact IsX.mk) ?_) | refine s_f ?_ | refine f_s ?_ | refine f_n ?_ | refine st2 ?_)
  exact ⟨rfl, rfl⟩
theorem l28 (d : Nat) (nb : Bool) (l : List GrD) (a m : Int) (hn : l.length ≤ 1000) (H : Hp) : callV E (den E (d + 8)) 28 [sl nb (flG l) l.length, .agg [i64 a, i64 m]] H = some (.tup [i64 (if chkR l a m = 0 then strR l a m else 0), i64 (if chkR l a m = 0 then 0 else 1)], H) := by
  refine callV_plain (args' := [sl nb (flG l) l.length, .agg [i64 a, i64 m]]) rfl rfl rfl (by simp (disch := omega) only [go_sem, seval]) ?_ rfl
  have k73 := l73 (d + 1) nb l a m hn
  by_cases h0 : chkR l a m = 0
  · rw [if_pos h0, if_pos h0]
    obtain ⟨hr, ha, hm, hc⟩ := chk_inv h0
    rw [h0] at k73
    by_cases hz : a = 0 ∧ m = 0
    · obtain ⟨rfl, rfl⟩ := hz
      rw [str_zero]
      have hzz : decide ((0 : Int) = 0 ∧ (0 : Int) = 0) = true := rfl
      refine den_ex Tryz.func28 rfl Tryz.ntmps28 (by simp) _ Tryz.results28 ?_
      repeat' (first | refine i_seq ?_ | refine k_seq ?_ | refine i_region ?_ | refine l_o ?_ | refine l_nil ?_ | (show RD _ _; refine e_do (by simp (disch := omega) only [go_sem, seval, k73, eq_liq, hzz]; exact IsX.mk) ?_) | refine s_f ?_ | refine f_s ?_ | refine f_n ?_ | refine st2 ?_)
      rfl
    · have hm0 : ¬ m = 0 := fun e => by
        subst e
        have db := dens_bd hr (show 0 ≤ (10000 : Int) by omega) (by omega)
        have : a * 50000 ≤ a * densR l 10000 := Int.mul_le_mul_of_nonneg_left db.1 ha.1
        omega
      obtain ⟨i, k76, g0, g1, g2, g3⟩ := l76 (d + 5) 10001 [.row ⟨[sl nb (flG l) l.length], 38, 1, true⟩, .row ⟨[i64 a, i64 m], 50, 2, true⟩] 74 [.op 1 0, .op 0 0] (fun s => decide (a * densR l s < m * s)) (by omega) (fun j j0 j1 => callV_inl rfl rfl (l74 d nb l (b := 1) (b' := 0) (lv := true) (lv' := true) hr ha hm rfl rfl j0 (by omega)))
      simp only [decide_eq_true_eq, decide_eq_false_iff_not] at g2 g3
      have ip : 0 < i := by
        rcases Int.lt_or_eq_of_le g0 with h | h
        · exact h
        · have h2 := g2 (by omega)
          rw [← h] at h2
          have := Int.mul_nonneg ha.1 (show 0 ≤ densR l 0 by have := dens_bd hr (show 0 ≤ (0 : Int) by omega) (by omega); omega)
          omega
      have hst : StrIs l a m (i - 1) := ⟨by omega, by omega, by have := g3 ip; omega, fun h => by rw [show i - 1 + 1 = i by omega]; exact g2 (by omega)⟩
      have es := str_is hr ha.1 hm.1 hm0 hst
      rw [es]
      have hzz : decide (a = 0 ∧ m = 0) = false := decide_eq_false hz
      refine den_ex Tryz.func28 rfl Tryz.ntmps28 (by simp) _ Tryz.results28 ?_
      repeat' (first | refine i_seq ?_ | refine k_seq ?_ | refine i_region ?_ | refine l_o ?_ | refine l_nil ?_ | (show RD _ _; refine e_do (by simp (disch := omega) only [go_sem, seval, wr64, k73, k76, eq_liq, hzz]; exact IsX.mk) ?_) | refine s_f ?_ | refine f_s ?_ | refine f_n ?_ | refine st2 ?_)
      rfl
  · rw [if_neg h0, if_neg h0]
    refine den_ex Tryz.func28 rfl Tryz.ntmps28 (by simp) _ Tryz.results28 ?_
    repeat' (first | refine i_seq ?_ | refine k_seq ?_ | refine i_region ?_ | refine l_o ?_ | refine l_nil ?_ | (show RD _ _; refine e_do (by simp (disch := omega) only [go_sem, seval, k73]; exact IsX.mk) ?_) | refine s_f ?_ | refine f_s ?_ | refine f_n ?_ | refine st2 ?_)
    rfl
end Go.Age
end
section
set_option linter.all false
set_option linter.unusedVariables false
set_option linter.unusedSimpArgs false
set_option maxRecDepth 100000
set_option maxHeartbeats 8000000
attribute [local irreducible] Go.Den.W Go.Den.WL Go.Den.WX Go.Den.WQ Go.Den.QR Go.Den.WG Go.Den.WO Go.Den.WK Go.Den.grows Go.Den.stepOp Go.Den.callV Go.Den.den
namespace Go.Age
open Go.Den Go.Proofs
def sum2 (m : List (ByteArray × Int)) : Int := (m.map (·.2)).sum
theorem add_sum {k : ByteArray} {a B : Int} (ha : 1 ≤ a) (hB : 0 ≤ B) (hm : B + a ≤ 9223372036854775807) : ∀ {m : List (ByteArray × Int)}, (∀ p ∈ m, 1 ≤ p.2 ∧ p.2 ≤ B) → sum2 (addA m k a) = sum2 m + a ∧ ∀ p ∈ addA m k a, 1 ≤ p.2 ∧ p.2 ≤ B + a
  | [], _ => by
    have e : IntKind.wrap .i64 (0 + a) = a := by rw [wr64 (by omega)]; omega
    simp only [addA, e]
    refine ⟨by simp [sum2], fun p hp => ?_⟩
    rw [List.mem_singleton] at hp
    subst hp
    simp only
    omega
  | p :: m, h => by
    have hp := h p (by simp)
    simp only [addA]
    split
    · have e : IntKind.wrap .i64 (p.2 + a) = p.2 + a := wr64 (by omega)
      rw [e]
      refine ⟨by simp only [sum2, List.map_cons, List.sum_cons]; omega, fun q hq => ?_⟩
      rcases List.mem_cons.1 hq with rfl | hq
      · simp only; omega
      · have := h q (by simp [hq]); omega
    · obtain ⟨h1, h2⟩ := add_sum (k := k) ha hB hm (m := m) fun q hq => h q (by simp [hq])
      refine ⟨by simp only [sum2, List.map_cons, List.sum_cons] at h1 ⊢; omega, fun q hq => ?_⟩
      rcases List.mem_cons.1 hq with rfl | hq
      · omega
      · exact h2 q hq
theorem org_sum {c : CellarD} {sh : List ShD} (hp : ShP sh) (h32 : sh.length ≤ 32) : ∀ n : Nat, n ≤ sh.length → sum2 (orgM c sh n) = sumN sh n ∧ ∀ p ∈ orgM c sh n, 1 ≤ p.2 ∧ p.2 ≤ (n : Int) * 10737418240000
  | 0, _ => ⟨rfl, fun p hp => by cases hp⟩
  | n + 1, hn => by
    obtain ⟨h1, h2⟩ := org_sum hp h32 n (by omega)
    have hs := (hp n (by omega) (by omega)).1
    obtain ⟨h3, h4⟩ := add_sum (k := (fOf c (sAt sh n).fill).org) (a := (sAt sh n).alc) (B := (n : Int) * 10737418240000) (by omega) (by omega) (by omega) h2
    simp only [orgM, sumN]
    refine ⟨by rw [h3, h1], fun p q => ?_⟩
    have := h4 p q
    omega
theorem val_in : ∀ {m : List (ByteArray × Int)}, (keysA m).Nodup → ∀ p ∈ m, valA m p.1 = p.2
  | [], _, p, hp => by cases hp
  | q :: m, h, p, hp => by
    have h' : ¬ q.1 ∈ keysA m ∧ (keysA m).Nodup := List.nodup_cons.1 h
    simp only [valA]
    rcases List.mem_cons.1 hp with rfl | hp
    · rw [if_pos (str_eq_iff.2 rfl)]
    · rw [if_neg (fun e => h'.1 (by rw [← str_eq_iff.1 e]; exact List.mem_map.2 ⟨p, hp, rfl⟩))]
      exact val_in h'.2 p hp
theorem map_val {m : List (ByteArray × Int)} (h : (keysA m).Nodup) : (keysA m).map (valA m) = m.map (·.2) := by
  rw [keysA, List.map_map]
  exact List.map_congr_left fun p hp => val_in h p hp
theorem perm_sum {l m : List Int} (h : l.Perm m) : l.sum = m.sum := by
  induction h with
  | nil => rfl
  | cons a _ ih => simp [ih]
  | swap a b l => simp only [List.sum_cons]; omega
  | trans _ _ h1 h2 => exact h1.trans h2
theorem sum_perm (c : CellarD) (sh : List ShD) : (sumL c sh).Perm ((orgM c sh sh.length).map (·.2)) := by
  rw [sumL, namL, ← map_val (org_nodup c sh sh.length)]
  exact (sortB_perm _).map _
theorem sum_facts {c : CellarD} {sh : List ShD} (hp : ShP sh) (h32 : sh.length ≤ 32) : (sumL c sh).sum = sumS sh sh.length ∧ ∀ s ∈ sumL c sh, 1 ≤ s ∧ s ≤ 343597383680000 := by
  obtain ⟨h1, h2⟩ := org_sum (c := c) hp h32 sh.length (Nat.le_refl _)
  refine ⟨?_, fun s hs => ?_⟩
  · rw [perm_sum (sum_perm c sh)]
    have e : ((sh.length : Nat) : Int).toNat = sh.length := by omega
    rw [sumS, e]; exact h1
  · obtain ⟨p, hp, rfl⟩ := List.mem_map.1 ((sum_perm c sh).mem_iff.1 hs)
    have := h2 p hp
    omega
theorem iAt_mem {l : List Int} {i : Int} (h : 0 ≤ i ∧ i < l.length) : iAt l i ∈ l := by
  have hi : i.toNat < l.length := by omega
  simp [iAt, List.getD, hi]
theorem take_sum {l : List Int} {i : Int} (h : 0 ≤ i ∧ i < l.length) : (l.take (i + 1).toNat).sum = (l.take i.toNat).sum + iAt l i := by
  have hi : i.toNat < l.length := by omega
  rw [show (i + 1).toNat = i.toNat + 1 by omega, List.take_add_one, List.sum_append, List.getElem?_eq_getElem hi, Option.toList_some]
  simp [iAt, List.getD, hi]
theorem ord_at {l : List ByteArray} (ho : Ord l) {k : Int} (h0 : 0 < k) (h1 : k < l.length) : strLt (alAt l (k - 1)) (alAt l k) = true := by
  obtain ⟨n, rfl⟩ : ∃ n : Nat, k = (n : Int) + 1 := ⟨(k - 1).toNat, by omega⟩
  have := List.pairwise_iff_getElem.1 ho n (n + 1) (by omega) (by omega) (by omega)
  have e1 : alAt l ((n : Int) + 1) = l[n + 1]'(by omega) := by simp [alAt, List.getD, show ((n : Int) + 1).toNat = n + 1 by omega, show n + 1 < l.length by omega]
  have e2 : alAt l ((n : Int) + 1 - 1) = l[n]'(by omega) := by simp [alAt, List.getD, show ((n : Int) + 1 - 1).toNat = n by omega, show n < l.length by omega]
  rw [e1, e2]
  exact this
theorem alg_in {c : CellarD} {sh : List ShD} {x : ByteArray} : x ∈ algL c sh ↔ ∃ j : Nat, j < sh.length ∧ x ∈ (fOf c (sAt sh j).fill).al := (alg_is c sh sh.length).2 x
theorem alg_ord (c : CellarD) (sh : List ShD) : Ord (algL c sh) := (alg_is c sh sh.length).1
def HasL (H : Hp) (v : CV) (l : List ByteArray) : Prop := (v = nilSl ∧ l = []) ∨ ∃ k, v = .own k 0 l.length 1 ∧ getR H k = some ⟨l.map strC, 9, 1, true⟩
theorem HasL.old {H : Hp} {v : CV} {l : List ByteArray} (h : HasL H v l) (G : Hp) : HasL (H ++ G) v l := h.imp id fun ⟨k, h1, h2⟩ => ⟨k, h1, getR_old h2 G⟩
def HasX (l : List FillD) (s : Int) (x : ByteArray) : Prop := ∃ i : Int, 0 ≤ i ∧ i < l.length ∧ (fAt l i).id = s ∧ x ∈ (fAt l i).al
open Classical in
noncomputable def hasX (l : List FillD) (s : Int) (x : ByteArray) : Bool := decide (HasX l s x)
end Go.Age
end
section
set_option linter.all false
set_option linter.unusedVariables false
set_option linter.unusedSimpArgs false
set_option maxRecDepth 100000
set_option maxHeartbeats 8000000
attribute [local irreducible] Go.Den.W Go.Den.WL Go.Den.WX Go.Den.WQ Go.Den.QR Go.Den.WG Go.Den.WO Go.Den.WK Go.Den.grows Go.Den.stepOp Go.Den.callV Go.Den.den
namespace Go.Age
open Go.Den Go.Proofs
open Classical in
noncomputable def readyR (t : List GrD) (c : CellarD) (id day n : Int) : Int :=
  if ¬ RightP t then 1 else if errY c id = 1 then 1 else if ¬ errY c id = 0 then errY c id else if n < 5001 ∨ 10000 < n then 2 else if ¬ (yearsR c id day).2 = 0 then (yearsR c id day).2 else if ¬ chkR t (lotOf c id).alc (lotOf c id).mass = 0 then 10 else 0
theorem ready_inv {t : List GrD} {c : CellarD} {id day n : Int} (h : readyR t c id day n = 0) : RightP t ∧ errY c id = 0 ∧ (5001 ≤ n ∧ n ≤ 10000) ∧ (yearsR c id day).2 = 0 ∧ chkR t (lotOf c id).alc (lotOf c id).mass = 0 := by
  unfold readyR at h
  split at h
  · cases h
  · rename_i h1
    split at h
    · cases h
    · split at h
      · exact absurd h ‹_›
      · rename_i h2
        split at h
        · cases h
        · split at h
          · exact absurd h ‹_›
          · rename_i h3
            split at h
            · cases h
            · rename_i h4
              exact ⟨Classical.not_not.1 h1, Classical.not_not.1 h2, by omega, Classical.not_not.1 h3, Classical.not_not.1 h4⟩
theorem ready_of {t : List GrD} {c : CellarD} {id day n : Int} (h1 : RightP t) (h2 : errY c id = 0) (h3 : 5001 ≤ n ∧ n ≤ 10000) (h4 : (yearsR c id day).2 = 0) (h5 : chkR t (lotOf c id).alc (lotOf c id).mass = 0) : readyR t c id day n = 0 := by
  unfold readyR
  rw [if_neg (Classical.not_not.2 h1), if_neg (by omega), if_neg (by omega), if_neg (by omega), if_neg (by omega), if_neg (by omega)]
theorem l62 (d : Nat) (nb : Bool) (t : List GrD) (c : CellarD) (id day n : Int) (hn : t.length ≤ 1000) (hs : FillsSm c.fills) (H : Hp) :
    callV E (den E (d + 18)) 62 [sl nb (flG t) t.length, .agg c.cells, i64 id, i64 day, i64 n] H = some (i64 (readyR t c id day n), H) := by
  refine callV_plain (args' := [sl nb (flG t) t.length, .agg c.cells, i64 id, i64 day, i64 n]) rfl rfl rfl (by simp (disch := omega) only [go_sem, seval]) ?_ rfl
  obtain ⟨r, H0, g1, x, e, rfl, g2⟩ := l100 (d + 15) nb t hn
  have k100 : ∀ H, callV E (den E (d + 17)) 100 [sl nb (flG t) t.length] H = some (.tup [i64 x, i64 e], H) := fun H => callV_plain rfl rfl rfl (by simp (disch := omega) only [go_sem, seval]) ⟨H0, g1⟩ rfl
  by_cases he : e = 0
  rotate_left
  · have ew : readyR t c id day n = 1 := by unfold readyR; rw [if_pos (fun h => he (g2.2 h))]
    rw [ew]
    by_cases hL : errL c id = 0
    · by_cases h0 : (lotOf c id).sh.length = 0
      · have k55 := fun H => cl55z d c id H hs hL h0
        refine den_ex Tryz.func62 rfl Tryz.ntmps62 (by simp) _ Tryz.results62 ?_
        repeat' (first | refine i_seq ?_ | refine k_seq ?_ | refine i_region ?_ | refine l_o ?_ | refine l_nil ?_ | (show RD _ _; refine e_do (by simp (disch := omega) only [go_sem, seval, k100, k55]; exact IsX.mk) ?_) | refine s_f ?_ | refine f_s ?_ | refine f_n ?_ | refine st2 ?_)
        rfl
      · have k55 := fun H => cl55y d c id H hs hL h0
        refine den_ex Tryz.func62 rfl Tryz.ntmps62 (by simp) _ Tryz.results62 ?_
        repeat' (first | refine i_seq ?_ | refine k_seq ?_ | refine i_region ?_ | refine l_o ?_ | refine l_nil ?_ | (show RD _ _; refine e_do (by simp (disch := omega) only [go_sem, seval, k100, k55]; exact IsX.mk) ?_) | refine s_f ?_ | refine f_s ?_ | refine f_n ?_ | refine st2 ?_)
        rfl
    · have k55 := fun H => cl55n d c id H hs hL
      refine den_ex Tryz.func62 rfl Tryz.ntmps62 (by simp) _ Tryz.results62 ?_
      repeat' (first | refine i_seq ?_ | refine k_seq ?_ | refine i_region ?_ | refine l_o ?_ | refine l_nil ?_ | (show RD _ _; refine e_do (by simp (disch := omega) only [go_sem, seval, k100, k55]; exact IsX.mk) ?_) | refine s_f ?_ | refine f_s ?_ | refine f_n ?_ | refine st2 ?_)
      rfl
  · have hr := g2.1 he
    subst he
    by_cases hL : errL c id = 0
    rotate_left
    · have k55 := fun H => cl55n d c id H hs hL
      have ey : errY c id = errL c id := by unfold errY; rw [if_pos hL]
      by_cases h1 : errL c id = 1
      · have ew : readyR t c id day n = 1 := by unfold readyR; rw [if_neg (Classical.not_not.2 hr), if_pos (by omega)]
        rw [ew]
        rw [h1] at k55
        refine den_ex Tryz.func62 rfl Tryz.ntmps62 (by simp) _ Tryz.results62 ?_
        repeat' (first | refine i_seq ?_ | refine k_seq ?_ | refine i_region ?_ | refine l_o ?_ | refine l_nil ?_ | (show RD _ _; refine e_do (by simp (disch := omega) only [go_sem, seval, k100, k55]; exact IsX.mk) ?_) | refine s_f ?_ | refine f_s ?_ | refine f_n ?_ | refine st2 ?_)
        rfl
      · have ew : readyR t c id day n = errL c id := by unfold readyR; rw [if_neg (Classical.not_not.2 hr), if_neg (by omega), if_pos (by omega), ey]
        rw [ew]
        refine den_ex Tryz.func62 rfl Tryz.ntmps62 (by simp) _ Tryz.results62 ?_
        repeat' (first | refine i_seq ?_ | refine k_seq ?_ | refine i_region ?_ | refine l_o ?_ | refine l_nil ?_ | (show RD _ _; refine e_do (by simp (disch := omega) only [go_sem, seval, k100, k55]; exact IsX.mk) ?_) | refine s_f ?_ | refine f_s ?_ | refine f_n ?_ | refine st2 ?_)
        rfl
    · by_cases h0 : (lotOf c id).sh.length = 0
      · have k55 := fun H => cl55z d c id H hs hL h0
        have ey : errY c id = 9 := by unfold errY; rw [if_neg (by omega), if_pos h0]
        have ew : readyR t c id day n = 9 := by unfold readyR; rw [if_neg (Classical.not_not.2 hr), if_neg (by omega), if_pos (by omega), ey]
        rw [ew]
        refine den_ex Tryz.func62 rfl Tryz.ntmps62 (by simp) _ Tryz.results62 ?_
        repeat' (first | refine i_seq ?_ | refine k_seq ?_ | refine i_region ?_ | refine l_o ?_ | refine l_nil ?_ | (show RD _ _; refine e_do (by simp (disch := omega) only [go_sem, seval, k100, k55]; exact IsX.mk) ?_) | refine s_f ?_ | refine f_s ?_ | refine f_n ?_ | refine st2 ?_)
        rfl
      · have k55 := fun H => cl55y d c id H hs hL h0
        have ey : errY c id = 0 := by unfold errY; rw [if_neg (by omega), if_neg h0]
        have k27 : ∀ H, callV E (den E (d + 17)) 27 [.agg c.cells, i64 id, i64 day] H = some (.tup [i64 (yearsR c id day).1, i64 (yearsR c id day).2], H) := fun H => callV_plain rfl rfl rfl (by simp (disch := omega) only [go_sem, seval]) (f13 (d + 2) c id day hs) rfl
        have k73 := l73 (d + 11) nb t (lotOf c id).alc (lotOf c id).mass hn
        by_cases b1 : n < 5001 ∨ 10000 < n
        · have ew : readyR t c id day n = 2 := by unfold readyR; rw [if_neg (Classical.not_not.2 hr), if_neg (by omega), if_neg (by omega), if_pos b1]
          rw [ew]
          refine den_ex Tryz.func62 rfl Tryz.ntmps62 (by simp) _ Tryz.results62 ?_
          repeat' (first | (first | refine i_seq ?_ | refine k_seq ?_ | refine i_region ?_ | refine l_o ?_ | refine l_nil ?_ | (show RD _ _; refine e_do (by simp (disch := omega) only [go_sem, seval, k100, k55]; exact IsX.mk) ?_) | refine s_f ?_ | refine f_s ?_ | refine f_n ?_ | refine st2 ?_) | (first | refine x2_split (fun h => ?_) (fun h => ?_) | refine q2_split (fun h => ?_) (fun h => ?_)) <;> (try simp only [beq_iff_eq, bne_iff_ne, beq_eq_false_iff_ne, bne_eq_false_iff_eq, ne_eq, decide_eq_true_eq, decide_eq_false_iff_not, gt_iff_lt, ge_iff_le, Bool.not_eq_true', Bool.not_eq_false'] at h))
          all_goals first | rfl | (exfalso; omega)
        · by_cases y : (yearsR c id day).2 = 0
          · by_cases hv0 : chkR t (lotOf c id).alc (lotOf c id).mass = 0
            · have ew := ready_of hr ey (show 5001 ≤ n ∧ n ≤ 10000 by omega) y hv0
              rw [ew]
              refine den_ex Tryz.func62 rfl Tryz.ntmps62 (by simp) _ Tryz.results62 ?_
              repeat' (first | refine i_seq ?_ | refine k_seq ?_ | refine i_region ?_ | refine l_o ?_ | refine l_nil ?_ | (show RD _ _; refine e_do (by simp (disch := omega) only [go_sem, seval, k100, k55, k27, k73, y]; exact IsX.mk) ?_) | refine s_f ?_ | refine f_s ?_ | refine f_n ?_ | refine st2 ?_)
              rfl
            · have ew : readyR t c id day n = 10 := by unfold readyR; rw [if_neg (Classical.not_not.2 hr), if_neg (by omega), if_neg (by omega), if_neg b1, if_neg (by omega), if_pos hv0]
              rw [ew]
              refine den_ex Tryz.func62 rfl Tryz.ntmps62 (by simp) _ Tryz.results62 ?_
              repeat' (first | refine i_seq ?_ | refine k_seq ?_ | refine i_region ?_ | refine l_o ?_ | refine l_nil ?_ | (show RD _ _; refine e_do (by simp (disch := omega) only [go_sem, seval, k100, k55, k27, k73, y]; exact IsX.mk) ?_) | refine s_f ?_ | refine f_s ?_ | refine f_n ?_ | refine st2 ?_)
              rfl
          · have ew : readyR t c id day n = (yearsR c id day).2 := by unfold readyR; rw [if_neg (Classical.not_not.2 hr), if_neg (by omega), if_neg (by omega), if_neg b1, if_pos y]
            rw [ew]
            refine den_ex Tryz.func62 rfl Tryz.ntmps62 (by simp) _ Tryz.results62 ?_
            repeat' (first | refine i_seq ?_ | refine k_seq ?_ | refine i_region ?_ | refine l_o ?_ | refine l_nil ?_ | (show RD _ _; refine e_do (by simp (disch := omega) only [go_sem, seval, k100, k55, k27]; exact IsX.mk) ?_) | refine s_f ?_ | refine f_s ?_ | refine f_n ?_ | refine st2 ?_)
            rfl
end Go.Age
end
