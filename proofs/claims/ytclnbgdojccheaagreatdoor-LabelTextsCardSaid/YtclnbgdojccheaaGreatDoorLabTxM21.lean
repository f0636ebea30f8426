/- Part of the proof of LabelTextsCardSaid/LabelBackCardSaid. -/
import Derived.Lib.ItoaNum
import Derived.Lib.ItoaMem
import Derived.Lib.AtoiAllCases
import Derived.Lib.Strings
import Derived.Lib.Bytealg
import Derived.Test.YtclnbgdojccheaaGreatDoorLabTxM20
section
set_option linter.all false
set_option linter.unusedVariables false
set_option maxRecDepth 100000
set_option maxHeartbeats 8000000
namespace Go.Age
open Go.Den
abbrev Bs := List UInt8
def bs (l : Bs) : ByteArray := ⟨l.toArray⟩
theorem bs_data (l : Bs) : (bs l).data.toList = l := rfl
theorem of_bs (b : ByteArray) : bs b.data.toList = b := rfl
theorem bs_size (l : Bs) : (bs l).size = l.length := by simp [bs, ByteArray.size]
theorem bs_inj {a b : Bs} (h : bs a = bs b) : a = b := by rw [← bs_data a, h, bs_data]
theorem bs_append (a b : Bs) : bs a ++ bs b = bs (a ++ b) := by
  apply ByteArray.ext
  simp [bs]
theorem bs_extract (l : Bs) (i j : Nat) : (bs l).extract i j = bs ((l.take j).drop i) := by
  apply ByteArray.ext
  rw [ByteArray.data_extract]
  apply Array.ext'
  simp [bs, List.extract_eq_take_drop, List.take_drop]
  by_cases h : i ≤ j
  · rw [Nat.add_sub_cancel' h]
  · rw [List.drop_eq_nil_of_le (by simp; omega), List.drop_eq_nil_of_le (by simp; omega)]
theorem bs_eq (a b : Bs) : strEq (bs a) (bs b) = decide (a = b) := by
  rw [Bool.eq_iff_iff, str_eq_iff, decide_eq_true_eq]
  exact ⟨bs_inj, fun h => by rw [h]⟩
def cutL (c : UInt8) : Bs → Bs × Bs × Bool
  | [] => ([], [], false)
  | x :: l => if x = c then ([], l, true) else (x :: (cutL c l).1, (cutL c l).2.1, (cutL c l).2.2)
theorem cut_miss {c : UInt8} : ∀ {l : Bs}, c ∉ l → cutL c l = (l, [], false)
  | [], _ => rfl
  | x :: l, h => by
    simp only [List.mem_cons, not_or] at h
    simp only [cutL, if_neg (Ne.symm h.1), cut_miss h.2]
theorem cut_hit {c : UInt8} : ∀ {a : Bs} (b : Bs), c ∉ a → cutL c (a ++ c :: b) = (a, b, true)
  | [], b, _ => by simp [cutL]
  | x :: a, b, h => by
    simp only [List.mem_cons, not_or] at h
    simp only [List.cons_append, cutL, if_neg (Ne.symm h.1), cut_hit b h.2]
theorem cut_cases (c : UInt8) : ∀ l : Bs, (c ∉ l ∧ cutL c l = (l, [], false)) ∨ ∃ a b, c ∉ a ∧ l = a ++ c :: b ∧ cutL c l = (a, b, true)
  | [] => .inl ⟨by simp, rfl⟩
  | x :: l => by
    by_cases e : x = c
    · exact .inr ⟨[], l, by simp, by rw [e]; rfl, by simp [cutL, e]⟩
    · rcases cut_cases c l with ⟨h1, h2⟩ | ⟨a, b, h1, h2, h3⟩
      · refine .inl ⟨by simp only [List.mem_cons, not_or]; exact ⟨Ne.symm e, h1⟩, ?_⟩
        simp only [cutL, if_neg e, h2]
      · refine .inr ⟨x :: a, b, by simp only [List.mem_cons, not_or]; exact ⟨Ne.symm e, h1⟩, by rw [h2]; rfl, ?_⟩
        simp only [cutL, if_neg e, h3]
theorem index_miss {c : UInt8} : ∀ {l : Bs}, c ∉ l → Lib.indexByte l c = -1
  | [], _ => rfl
  | x :: l, h => by
    simp only [List.mem_cons, not_or] at h
    have e : (x == c) = false := by simpa using Ne.symm h.1
    simp [Lib.indexByte, e, index_miss h.2]
theorem index_hit {c : UInt8} : ∀ {a : Bs} (b : Bs), c ∉ a → Lib.indexByte (a ++ c :: b) c = a.length
  | [], b, _ => by simp [Lib.indexByte]
  | x :: a, b, h => by
    simp only [List.mem_cons, not_or] at h
    have e : (x == c) = false := by simpa using Ne.symm h.1
    have ih := index_hit b h.2
    have e2 : (Lib.indexByte (a ++ c :: b) c == -1) = false := by rw [ih]; simp
    simp [Lib.indexByte, e, e2, ih]
def isDig (c : UInt8) : Bool := decide (48 ≤ c.toNat ∧ c.toNat ≤ 57)
def digS (a : Nat) (c : UInt8) : Nat := a * 10 + (c.toNat - 48)
def numV (a : Nat) (l : Bs) : Nat := l.foldl digS a
theorem numV_nil (a : Nat) : numV a [] = a := by unfold numV; rw [List.foldl_nil]
theorem numV_cons (a : Nat) (c : UInt8) (l : Bs) : numV a (c :: l) = numV (a * 10 + (c.toNat - 48)) l := by unfold numV; rw [List.foldl_cons]; unfold digS; with_reducible rfl
theorem numV_app (l m : Bs) : ∀ a : Nat, numV a (l ++ m) = numV (numV a l) m := by
  induction l with
  | nil => intro a; rw [List.nil_append, numV_nil]
  | cons c l ih => intro a; rw [List.cons_append, numV_cons, numV_cons, ih]
theorem numV_one (a : Nat) (c : UInt8) : numV a [c] = a * 10 + (c.toNat - 48) := by rw [numV_cons, numV_nil]
attribute [irreducible] numV
theorem dig_ofNat {d : Nat} (h : d < 10) : (UInt8.ofNat (48 + d)).toNat = 48 + d := by
  rw [UInt8.toNat_ofNat']; omega
theorem dec_all : ∀ (k u : Nat), u < k → (Lib.decDigits u).all isDig = true ∧ numV 0 (Lib.decDigits u) = u ∧ Lib.decDigits u ≠ [] ∧ (10 ≤ u → ∃ c l, Lib.decDigits u = c :: l ∧ c.toNat ≠ 48)
  | 0, u, h => by omega
  | k + 1, u, h => by
    by_cases h1 : u < 10
    · rw [Lib.decDigits, dif_pos h1]
      have e := dig_ofNat h1
      refine ⟨by rw [List.all_cons, List.all_nil, Bool.and_true, isDig, e, decide_eq_true_eq]; omega, by rw [numV_one, e]; omega, by simp, fun h => by omega⟩
    · obtain ⟨a1, a2, a3, a4⟩ := dec_all k (u / 10) (by omega)
      rw [Lib.decDigits, dif_neg h1]
      have e := dig_ofNat (show u % 10 < 10 by omega)
      refine ⟨by rw [List.all_append, a1, List.all_cons, List.all_nil, Bool.and_true, Bool.true_and, isDig, e, decide_eq_true_eq]; omega, by rw [numV_app, a2, numV_one, e]; omega, by simp, fun _ => ?_⟩
      by_cases h2 : 10 ≤ u / 10
      · obtain ⟨c, l, h3, h4⟩ := a4 h2
        exact ⟨c, l ++ [UInt8.ofNat (48 + u % 10)], by rw [h3]; rfl, h4⟩
      · rw [Lib.decDigits, dif_pos (by omega)]
        exact ⟨_, _, rfl, by rw [dig_ofNat (by omega)]; omega⟩
theorem numV_lt : ∀ (l : Bs) (a : Nat), l.all isDig = true → numV a l < (a + 1) * 10 ^ l.length
  | [], a, _ => by rw [numV_nil, List.length_nil, Nat.pow_zero]; omega
  | c :: l, a, h => by
    simp only [List.all_cons, Bool.and_eq_true, isDig, decide_eq_true_eq] at h
    have ih := numV_lt l (a * 10 + (c.toNat - 48)) h.2
    rw [numV_cons, List.length_cons]
    have e : (a * 10 + (c.toNat - 48) + 1) * 10 ^ l.length ≤ ((a + 1) * 10) * 10 ^ l.length := Nat.mul_le_mul_right _ (by omega)
    rw [Nat.pow_succ]
    have e2 : (a + 1) * (10 ^ l.length * 10) = ((a + 1) * 10) * 10 ^ l.length := by rw [Nat.mul_comm (10 ^ l.length), Nat.mul_assoc]
    omega
theorem dec_of : ∀ (k : Nat) (l : Bs), l.length ≤ k → l.all isDig = true → l ≠ [] → (l.length = 1 ∨ ∃ c r, l = c :: r ∧ c.toNat ≠ 48) → Lib.decDigits (numV 0 l) = l ∧ (2 ≤ l.length → 10 ≤ numV 0 l)
  | 0, l, hk, _, hne, _ => by cases l <;> simp_all
  | k + 1, l, hk, hd, hne, hz => by
    rcases List.eq_nil_or_concat l with rfl | ⟨m, c, rfl⟩
    · exact absurd rfl hne
    · rw [List.concat_eq_append] at *
      simp only [List.all_append, Bool.and_eq_true, List.all_cons, List.all_nil, Bool.and_true] at hd
      have hc : 48 ≤ c.toNat ∧ c.toNat ≤ 57 := by simpa [isDig] using hd.2
      have ec : UInt8.ofNat (48 + (c.toNat - 48)) = c := by
        apply UInt8.toNat_inj.1
        rw [dig_ofNat (by omega)]; omega
      rw [numV_app, numV_cons, numV_nil]
      by_cases hm : m = []
      · subst hm
        rw [numV_nil, Nat.zero_mul, Nat.zero_add, List.nil_append]
        rw [Lib.decDigits, dif_pos (by omega), ec]
        exact ⟨rfl, fun h => by simp at h⟩
      · obtain ⟨c0, r0, rfl⟩ : ∃ c0 r0, m = c0 :: r0 := by cases m with
          | nil => exact absurd rfl hm
          | cons a b => exact ⟨a, b, rfl⟩
        have hz0 : c0.toNat ≠ 48 := by
          rcases hz with h | ⟨c1, r1, h1, h2⟩
          · simp at h
          · simp only [List.cons_append, List.cons.injEq] at h1
            rw [h1.1]; exact h2
        have hd0 : 48 ≤ c0.toNat ∧ c0.toNat ≤ 57 := by
          have := hd.1
          simp only [List.all_cons, Bool.and_eq_true, isDig, decide_eq_true_eq] at this
          exact this.1
        obtain ⟨i1, i2⟩ := dec_of k (c0 :: r0) (by simp at hk ⊢; omega) hd.1 (by simp) (.inr ⟨c0, r0, rfl, hz0⟩)
        have hpos : 1 ≤ numV 0 (c0 :: r0) := by
          by_cases h2 : 2 ≤ (c0 :: r0).length
          · have := i2 h2; omega
          · have : r0 = [] := by cases r0 <;> simp_all
            subst this
            rw [numV_one]
            exact (fun z (a : z ≠ 48) (b : 48 ≤ z) => by omega : ∀ z : Nat, z ≠ 48 → 48 ≤ z → 1 ≤ 0 * 10 + (z - 48)) _ hz0 hd0.1
        have e1 : (numV 0 (c0 :: r0) * 10 + (c.toNat - 48)) / 10 = numV 0 (c0 :: r0) := by omega
        have e2 : (numV 0 (c0 :: r0) * 10 + (c.toNat - 48)) % 10 = c.toNat - 48 := by omega
        rw [Lib.decDigits, dif_neg (by omega), e1, e2, i1, ec]
        exact ⟨rfl, fun _ => by omega⟩
open Classical in
noncomputable def numO (s : Bs) : Option Int := if s ≠ [] ∧ s.length ≤ 5 ∧ s.all isDig = true ∧ (s.length = 1 ∨ ∃ c r, s = c :: r ∧ c.toNat ≠ 48) then some (numV 0 s) else none
theorem itoa_nn {n : Int} (h : 0 ≤ n) : Lib.itoa n = Lib.decDigits n.toNat := by unfold Lib.itoa; rw [if_neg (by omega)]
theorem num_iff {s : Bs} {n : Int} : numO s = some n ↔ (0 ≤ n ∧ n ≤ 99999) ∧ s = Lib.itoa n := by
  unfold numO
  constructor
  · intro h
    split at h
    · rename_i hc
      obtain ⟨h1, h2, h3, h4⟩ := hc
      cases h
      have lt := numV_lt s 0 h3
      have le : (10 : Nat) ^ s.length ≤ 10 ^ 5 := Nat.pow_le_pow_right (by omega) h2
      refine ⟨⟨by omega, by omega⟩, ?_⟩
      rw [itoa_nn (by omega)]
      exact (dec_of s.length s (Nat.le_refl _) h3 h1 h4).1.symm
    · cases h
  · rintro ⟨⟨h0, h1⟩, rfl⟩
    rw [itoa_nn h0]
    obtain ⟨a1, a2, a3, a4⟩ := dec_all (n.toNat + 1) n.toNat (by omega)
    have hl : (Lib.decDigits n.toNat).length ≤ 5 := by
      have := Lib.decDigits_length n.toNat
      rw [this]
      rcases Nat.lt_or_ge n.toNat 10 with h | h
      · rw [Lib.nDigits_small h]; omega
      · rcases Nat.lt_or_ge n.toNat 100 with h2 | h2
        · rw [Lib.nDigits_unique 1 _ (by omega) (by omega)]; omega
        · rcases Nat.lt_or_ge n.toNat 1000 with h3 | h3
          · rw [Lib.nDigits_unique 2 _ (by omega) (by omega)]; omega
          · rcases Nat.lt_or_ge n.toNat 10000 with h4 | h4
            · rw [Lib.nDigits_unique 3 _ (by omega) (by omega)]; omega
            · rw [Lib.nDigits_unique 4 _ (by omega) (by omega)]; omega
    have hz : (Lib.decDigits n.toNat).length = 1 ∨ ∃ c r, Lib.decDigits n.toNat = c :: r ∧ c.toNat ≠ 48 := by
      by_cases h : 10 ≤ n.toNat
      · exact .inr (a4 h)
      · left
        rw [Lib.decDigits, dif_pos (by omega)]; rfl
    rw [if_pos ⟨a3, hl, a1, hz⟩, a2, Int.toNat_of_nonneg h0]
theorem parse_digs : ∀ (l : Bs) (a : Nat), l.all isDig = true → numV a l < 1000000000 → Lib.parseUint10 a l = .ok (numV a l)
  | [], a, _, _ => by rw [numV_nil, Lib.parseUint10]
  | c :: l, a, h, hv => by
    simp only [List.all_cons, Bool.and_eq_true, isDig, decide_eq_true_eq] at h
    have hle : ∀ (l : Bs) (a : Nat), a ≤ numV a l := by
      intro l
      induction l with
      | nil => intro a; exact Nat.le_of_eq (numV_nil a).symm
      | cons c l ih => intro a; have := ih (a * 10 + (c.toNat - 48)); rw [numV_cons]; omega
    have h2 := hle l (a * 10 + (c.toNat - 48))
    rw [numV_cons] at hv ⊢
    simp only [Lib.parseUint10]
    rw [if_pos h.1, if_neg (by omega), if_neg (by omega)]
    exact parse_digs l _ h.2 hv
theorem atoi_itoa {n : Int} (h0 : 0 ≤ n) (h1 : n ≤ 99999) : Lib.atoiAll (Lib.itoa n) = .ok n := by
  rw [itoa_nn h0]
  obtain ⟨a1, a2, a3, a4⟩ := dec_all (n.toNat + 1) n.toNat (by omega)
  have hp := parse_digs (Lib.decDigits n.toNat) 0 a1 (by omega)
  rw [a2] at hp
  cases hd : Lib.decDigits n.toNat with
  | nil => exact absurd hd a3
  | cons c r =>
    rw [hd] at hp a1
    simp only [List.all_cons, Bool.and_eq_true, isDig, decide_eq_true_eq] at a1
    rw [Lib.atoiAll_plain c r (by omega) (by omega), Lib.parseMag, if_neg (by simp), hp]
    show (if 9223372036854775808 ≤ n.toNat then Lib.NumEnd.range else Lib.NumEnd.ok (n.toNat : Int)) = _
    rw [if_neg (by omega), Int.toNat_of_nonneg h0]
theorem itoa_digs {n : Int} (h : 0 ≤ n) : ∀ c ∈ Lib.itoa n, 48 ≤ c.toNat ∧ c.toNat ≤ 57 := by
  rw [itoa_nn h]
  have := (dec_all (n.toNat + 1) n.toNat (by omega)).1
  intro c hc
  have := List.all_eq_true.1 this c hc
  simpa [isDig] using this
end Go.Age
end
section
set_option linter.all false
set_option linter.unusedVariables false
set_option linter.unusedSimpArgs false
set_option maxRecDepth 100000
set_option maxHeartbeats 8000000
attribute [local irreducible] Go.Den.W Go.Den.WL Go.Den.WX Go.Den.WQ Go.Den.QR Go.Den.WG Go.Den.WO Go.Den.WK Go.Den.grows Go.Den.stepOp Go.Den.callV Go.Den.den
namespace Go.Age
open Go.Den Go.Proofs
@[go_sem] theorem s_addS (a b : Bs) : scal (Op.stringOp .add (bs a) (bs b)) = guardO (a.length + b.length ≤ 9223372036854775807) (strC (bs (a ++ b))) := by
  have e : ((bs a).size : Int) = a.length := by rw [bs_size]
  have e' : ((bs b).size : Int) = b.length := by rw [bs_size]
  have em : IntKind.i64.max = 9223372036854775807 := rfl
  unfold guardO
  split
  · rename_i h
    have h' : ¬ (((bs a).size + (bs b).size : Nat) : Int) > IntKind.i64.max := by rw [em]; omega
    rw [← bs_append]
    simp only [Op.stringOp, if_neg h', scal]
    rfl
  · rename_i h
    have h' : (((bs a).size + (bs b).size : Nat) : Int) > IntKind.i64.max := by rw [em]; omega
    simp only [Op.stringOp, if_pos h', scal]
    rfl
@[go_sem] theorem mk_bs (l : Bs) : ByteArray.mk l.toArray = bs l := rfl
attribute [go_sem] bs_size
@[go_sem] theorem bound_n (d m : Nat) : boundC none d m = some d := rfl
@[go_sem] theorem bound_i (k : IntKind) (n : Int) (d m : Nat) (h : 0 ≤ n ∧ n ≤ m) : boundC (some (.v (.int k n))) d m = some n.toNat := if_pos h
@[go_sem] theorem slc_str (l : Bs) (lo hi : Option CV) (H : Hp) : sliceC E 9 (strC (bs l)) lo hi none H = (match boundC hi l.length l.length with
    | some h => match boundC lo 0 h with
      | some k => some (strC (bs ((l.take h).drop k)))
      | none => none
    | none => none) := by
  have e : sliceC E 9 (strC (bs l)) lo hi none H = (match boundC hi (bs l).size (bs l).size with
    | some h => match boundC lo 0 h with
      | some k => some (.v (.string ((bs l).extract k h)))
      | none => none
    | none => none) := by
    unfold sliceC
    simp only [Option.isSome_none, Bool.false_eq_true, false_and, if_false, ty_9]
    cases boundC hi (bs l).size (bs l).size with
    | none => rfl
    | some h => rfl
  rw [e, bs_size]
  cases boundC hi l.length l.length with
  | none => rfl
  | some h =>
    dsimp only
    cases boundC lo 0 h with
    | none => rfl
    | some k => simp only [bs_extract]
theorem callV_prim {d : Nat} {g : FuncId} {p : List CV → Hp → Option (CV × Hp)} {args : List CV} {H : Hp} (h : E.prim g = some p) : callV E (den E d) g args H = p args H := by
  unfold callV; rw [h]
@[go_sem] theorem call_index (d : Nat) (l : Bs) (c : Int) (H : Hp) : callV E (den E d) 175 [strC (bs l), .v (.int .u8 c)] H = some (i64 (Lib.indexByte l c.toNat.toUInt8), H) := (callV_prim (p := indexP) rfl).trans rfl
theorem strEq_bs (b : ByteArray) : strEq b b = true := str_eq_iff.2 rfl
theorem l146 (d : Nat) (l : Bs) (c : UInt8) (hn : l.length ≤ 1000000000) : ∃ H0, den E (d + 1) 146 [strC (bs l), strC (bs [c])] [] = some (i64 (Lib.indexByte l c), H0) := by
  refine den_ex Tryz.func146 rfl Tryz.ntmps146 (by simp) _ Tryz.results146 ?_
  have e : byteS (bs [c]) 0 = c.toNat := rfl
  have e2 : ((c.toNat : Int)).toNat.toUInt8 = c := by simp
  have h1 : (bs [c]).size = 1 := rfl
  by_cases h : l = [c]
  · subst h
    have h2 : strEq (bs [c]) (bs [c]) = true := strEq_bs _
    have h3 : Lib.indexByte [c] c = 0 := by simp [Lib.indexByte]
    rw [h3]
    repeat' (first | refine i_seq ?_ | refine k_seq ?_ | refine i_region ?_ | refine l_o ?_ | refine l_nil ?_ | (show RD _ _; refine e_do (by simp (disch := omega) only [go_sem, seval, e, e2, h1, h2, Int.natCast_one]; exact IsX.mk) ?_) | refine s_f ?_ | refine f_s ?_ | refine f_n ?_ | refine l_g rfl rfl ?_ | refine x2_o rfl ?_ | refine x2_n rfl ?_ | refine x2_u ?_ | refine i_cnd rfl ?_ | refine q2_true ?_ | refine q2_false ?_ | refine i_skip ?_ | refine i_label ?_ | refine i_exit ?_ | refine i_ret ?_ | refine k_seqr ?_ | refine k_seqe ?_ | refine i_block ?_ | refine k_blk ?_ | refine k_blkr ?_ | refine k_blke ?_ | refine k_blkn rfl ?_ | refine k_loope ?_ | refine k_loopr ?_ | refine s_t (by simp (disch := omega) only [go_sem, Nat.reduceLeDiff]) ?_ | refine i_draw (by decide +kernel) ?_ | refine r_rt ?_ | refine r_nm ?_ | refine k_d (by simp (disch := omega) only [go_sem, Nat.reduceLT, Nat.reduceEqDiff, ↓reduceIte, ne_eq, not_false_eq_true, Nat.reduceAdd, reduceCtorEq]) rfl ?_)
    all_goals rfl
  · have h2 : strEq (bs [c]) (bs l) = false := by
      rw [bs_eq]
      exact decide_eq_false fun h' => h h'.symm
    repeat' (first | refine i_seq ?_ | refine k_seq ?_ | refine i_region ?_ | refine l_o ?_ | refine l_nil ?_ | (show RD _ _; refine e_do (by simp (disch := omega) only [go_sem, seval, e, e2, h1, h2, Int.natCast_one]; exact IsX.mk) ?_) | refine s_f ?_ | refine f_s ?_ | refine f_n ?_ | refine l_g rfl rfl ?_ | refine x2_o rfl ?_ | refine x2_n rfl ?_ | refine x2_u ?_ | refine i_cnd rfl ?_ | refine q2_true ?_ | refine q2_false ?_ | refine i_skip ?_ | refine i_label ?_ | refine i_exit ?_ | refine i_ret ?_ | refine k_seqr ?_ | refine k_seqe ?_ | refine i_block ?_ | refine k_blk ?_ | refine k_blkr ?_ | refine k_blke ?_ | refine k_blkn rfl ?_ | refine k_loope ?_ | refine k_loopr ?_ | refine s_t (by simp (disch := omega) only [go_sem, Nat.reduceLeDiff]) ?_ | refine i_draw (by decide +kernel) ?_ | refine r_rt ?_ | refine r_nm ?_ | refine k_d (by simp (disch := omega) only [go_sem, Nat.reduceLT, Nat.reduceEqDiff, ↓reduceIte, ne_eq, not_false_eq_true, Nat.reduceAdd, reduceCtorEq]) rfl ?_)
    all_goals rfl
theorem cl146 (d : Nat) (l : Bs) (c : UInt8) (H : Hp) (hn : l.length ≤ 1000000000) : callV E (den E (d + 1)) 146 [strC (bs l), strC (bs [c])] H = some (i64 (Lib.indexByte l c), H) := callV_plain rfl rfl rfl rfl (l146 d l c hn) rfl
theorem l122 (d : Nat) (l : Bs) (c : UInt8) (hn : l.length ≤ 1000000000) : ∃ H0, den E (d + 2) 122 [strC (bs l), strC (bs [c])] [] = some (.tup [strC (bs (cutL c l).1), strC (bs (cutL c l).2.1), bl (cutL c l).2.2], H0) := by
  refine den_ex Tryz.func122 rfl Tryz.ntmps122 (by simp) _ Tryz.results122 ?_
  have k := fun H => cl146 d l c H hn
  have h1 : (bs [c]).size = 1 := rfl
  rcases cut_cases c l with ⟨h2, h3⟩ | ⟨a, b, h2, h3, h4⟩
  · rw [h3]
    rw [index_miss h2] at k
    repeat' (first | refine i_seq ?_ | refine k_seq ?_ | refine i_region ?_ | refine l_o ?_ | refine l_nil ?_ | (show RD _ _; refine e_do (by simp (disch := omega) only [go_sem, seval, k]; exact IsX.mk) ?_) | refine s_f ?_ | refine f_s ?_ | refine f_n ?_ | refine l_g rfl rfl ?_ | refine x2_o rfl ?_ | refine x2_n rfl ?_ | refine x2_u ?_ | refine i_cnd rfl ?_ | refine q2_true ?_ | refine q2_false ?_ | refine i_skip ?_ | refine i_label ?_ | refine i_exit ?_ | refine i_ret ?_ | refine k_seqr ?_ | refine k_seqe ?_ | refine i_block ?_ | refine k_blk ?_ | refine k_blkr ?_ | refine k_blke ?_ | refine k_blkn rfl ?_ | refine k_loope ?_ | refine k_loopr ?_ | refine s_t (by simp (disch := omega) only [go_sem, Nat.reduceLeDiff]) ?_ | refine i_draw (by decide +kernel) ?_ | refine r_rt ?_ | refine r_nm ?_ | refine k_d (by simp (disch := omega) only [go_sem, Nat.reduceLT, Nat.reduceEqDiff, ↓reduceIte, ne_eq, not_false_eq_true, Nat.reduceAdd, reduceCtorEq]) rfl ?_)
    all_goals rfl
  · rw [h4]
    rw [h3, index_hit b h2] at k
    subst h3
    have hl : (a ++ c :: b).length = a.length + b.length + 1 := by simp; omega
    rw [hl] at hn
    have t1 : List.take a.length (a ++ c :: b) = a := by simp
    have t2 : List.drop (a.length + 1) (a ++ c :: b) = b := by
      simp [List.drop_append]
    have u1 : ((a.length : Int)).toNat = a.length := by omega
    have u2 : ((a.length : Int) + 1).toNat = a.length + 1 := by omega
    have u3 : List.take (a.length + b.length + 1) (a ++ c :: b) = a ++ c :: b := List.take_of_length_le (by rw [hl]; omega)
    repeat' (first | refine i_seq ?_ | refine k_seq ?_ | refine i_region ?_ | refine l_o ?_ | refine l_nil ?_ | (show RD _ _; refine e_do (by simp (disch := omega) only [go_sem, seval, k, h1, wr64, hl, u1, u2, u3, t1, t2, Int.natCast_one]; exact IsX.mk) ?_) | refine s_f ?_ | refine f_s ?_ | refine f_n ?_ | refine l_g rfl rfl ?_ | refine x2_o rfl ?_ | refine x2_n rfl ?_ | refine x2_u ?_ | refine i_cnd rfl ?_ | refine q2_true ?_ | refine q2_false ?_ | refine i_skip ?_ | refine i_label ?_ | refine i_exit ?_ | refine i_ret ?_ | refine k_seqr ?_ | refine k_seqe ?_ | refine i_block ?_ | refine k_blk ?_ | refine k_blkr ?_ | refine k_blke ?_ | refine k_blkn rfl ?_ | refine k_loope ?_ | refine k_loopr ?_ | refine s_t (by simp (disch := omega) only [go_sem, Nat.reduceLeDiff]) ?_ | refine i_draw (by decide +kernel) ?_ | refine r_rt ?_ | refine r_nm ?_ | refine k_d (by simp (disch := omega) only [go_sem, Nat.reduceLT, Nat.reduceEqDiff, ↓reduceIte, ne_eq, not_false_eq_true, Nat.reduceAdd, reduceCtorEq]) rfl ?_)
    all_goals rfl
theorem l83 (d : Nat) (l : Bs) (c : UInt8) (hn : l.length ≤ 1000000000) : ∃ H0, den E (d + 3) 83 [strC (bs l), strC (bs [c])] [] = some (.tup [strC (bs (cutL c l).1), strC (bs (cutL c l).2.1), bl (cutL c l).2.2], H0) := by
  refine den_ex Tryz.func83 rfl Tryz.ntmps83 (by simp) _ Tryz.results83 ?_
  have k := fun H => (callV_plain rfl rfl rfl rfl (l122 d l c hn) rfl : callV E (den E (d + 2)) 122 [strC (bs l), strC (bs [c])] H = some (.tup [strC (bs (cutL c l).1), strC (bs (cutL c l).2.1), bl (cutL c l).2.2], H))
  repeat' (first | refine i_seq ?_ | refine k_seq ?_ | refine i_region ?_ | refine l_o ?_ | refine l_nil ?_ | (show RD _ _; refine e_do (by simp (disch := omega) only [go_sem, seval, k]; exact IsX.mk) ?_) | refine s_f ?_ | refine f_s ?_ | refine f_n ?_ | refine l_g rfl rfl ?_ | refine x2_o rfl ?_ | refine x2_n rfl ?_ | refine x2_u ?_ | refine i_cnd rfl ?_ | refine q2_true ?_ | refine q2_false ?_ | refine i_skip ?_ | refine i_label ?_ | refine i_exit ?_ | refine i_ret ?_ | refine k_seqr ?_ | refine k_seqe ?_ | refine i_block ?_ | refine k_blk ?_ | refine k_blkr ?_ | refine k_blke ?_ | refine k_blkn rfl ?_ | refine k_loope ?_ | refine k_loopr ?_ | refine s_t (by simp (disch := omega) only [go_sem, Nat.reduceLeDiff]) ?_ | refine i_draw (by decide +kernel) ?_ | refine r_rt ?_ | refine r_nm ?_ | refine k_d (by simp (disch := omega) only [go_sem, Nat.reduceLT, Nat.reduceEqDiff, ↓reduceIte, ne_eq, not_false_eq_true, Nat.reduceAdd, reduceCtorEq]) rfl ?_)
  all_goals rfl
theorem cl83 (d : Nat) (l : Bs) (c : UInt8) (H : Hp) (hn : l.length ≤ 1000000000) : callV E (den E (d + 3)) 83 [strC (bs l), strC (bs [c])] H = some (.tup [strC (bs (cutL c l).1), strC (bs (cutL c l).2.1), bl (cutL c l).2.2], H) := callV_plain rfl rfl rfl rfl (l83 d l c hn) rfl
@[go_sem] theorem call_itoa (d : Nat) (n : Int) (H : Hp) (h : -9223372036854775808 ≤ n ∧ n ≤ 9223372036854775807) : callV E (den E d) 81 [i64 n] H = some (strC (bs (Lib.itoa n)), H) := (callV_prim (p := itoaP) rfl).trans (if_pos h)
theorem call_atoi (d : Nat) (l : Bs) (hn : l.length ≤ 1000000000) : ∃ z e, (∀ H, callV E (den E d) 147 [strC (bs l)] H = some (.tup [i64 z, e], H)) ∧ ((Lib.atoiAll l = .ok z ∧ e = .v .nilIface) ∨ ((∀ n, Lib.atoiAll l ≠ .ok n) ∧ e = .ifc 219 .junk)) := by
  have e0 : ∀ H, callV E (den E d) 147 [strC (bs l)] H = atoiP [strC (bs l)] H := fun H => callV_prim rfl
  have e1 : (bs l).size ≤ 281474976710656 := by rw [bs_size]; omega
  have e2 : ∀ H, atoiP [strC (bs l)] H = (match Lib.atoiAll l with
    | .ok n => some (.tup [.v (.int .i64 n), .v .nilIface], H)
    | .range => some (.tup [.v (.int .i64 (Lib.atoiSat l)), .ifc 219 .junk], H)
    | _ => some (.tup [.v (.int .i64 0), .ifc 219 .junk], H)) := fun H => (if_pos e1).trans (by rw [bs_data]; cases Lib.atoiAll l <;> rfl)
  simp only [e0, e2]
  cases h : Lib.atoiAll l
  · rename_i n
    exact ⟨n, _, fun H => rfl, .inl ⟨rfl, rfl⟩⟩
  · exact ⟨0, _, fun H => rfl, .inr ⟨fun n h' => (by cases h'), rfl⟩⟩
  · exact ⟨_, _, fun H => rfl, .inr ⟨fun n h' => (by cases h'), rfl⟩⟩
theorem l123 (d : Nat) (l : Bs) (hn : l.length ≤ 1000000000) : ∃ z H0, den E (d + 1) 123 [strC (bs l)] [] = some (.tup [i64 z, bl (numO l).isSome], H0) ∧ ∀ n, numO l = some n → z = n := by
  obtain ⟨z, e, k, hz⟩ := call_atoi d l hn
  have hno : ∀ m, numO l = some m → Lib.atoiAll l = .ok m := fun m h => by
    obtain ⟨⟨h0, h1⟩, h2⟩ := num_iff.1 h
    rw [h2]
    exact atoi_itoa h0 h1
  refine ⟨z, ?_⟩
  have hz2 : ∀ n, numO l = some n → z = n := fun n h => by
    rcases hz with ⟨h1, _⟩ | ⟨h1, _⟩
    · rw [hno n h] at h1; injection h1 with h1; exact h1.symm
    · exact absurd (hno n h) (h1 n)
  suffices h : ∃ H0, den E (d + 1) 123 [strC (bs l)] [] = some (.tup [i64 z, bl (numO l).isSome], H0) from by
    obtain ⟨H0, h⟩ := h
    exact ⟨H0, h, hz2⟩
  have hnone : ¬ (0 ≤ z ∧ z ≤ 99999 ∧ l = Lib.itoa z) → (numO l).isSome = false := fun h => by
    cases hq : numO l with
    | none => rfl
    | some m =>
      have := hz2 m hq
      subst this
      obtain ⟨h0, h2⟩ := num_iff.1 hq
      exact absurd ⟨h0.1, h0.2, h2⟩ h
  rcases hz with ⟨h1, rfl⟩ | ⟨h1, rfl⟩
  · by_cases c1 : 0 ≤ z
    · by_cases c2 : z ≤ 99999
      · have hb : strEq (bs (Lib.itoa z)) (bs l) = (numO l).isSome := by
          rw [bs_eq]
          by_cases c3 : l = Lib.itoa z
          · rw [num_iff.2 ⟨⟨c1, c2⟩, c3⟩]
            exact decide_eq_true c3.symm
          · rw [hnone fun h => c3 h.2.2]
            exact decide_eq_false fun h => c3 h.symm
        refine den_ex Tryz.func123 rfl Tryz.ntmps123 (by simp) _ Tryz.results123 ?_
        repeat' (first | refine i_seq ?_ | refine k_seq ?_ | refine i_region ?_ | refine l_o ?_ | refine l_nil ?_ | (show RD _ _; refine e_do (by simp (disch := omega) only [go_sem, seval, k, hb]; exact IsX.mk) ?_) | refine s_f ?_ | refine f_s ?_ | refine f_n ?_ | refine l_g rfl rfl ?_ | refine x2_o rfl ?_ | refine x2_n rfl ?_ | refine x2_u ?_ | refine i_cnd rfl ?_ | refine q2_true ?_ | refine q2_false ?_ | refine i_skip ?_ | refine i_label ?_ | refine i_exit ?_ | refine i_ret ?_ | refine k_seqr ?_ | refine k_seqe ?_ | refine i_block ?_ | refine k_blk ?_ | refine k_blkr ?_ | refine k_blke ?_ | refine k_blkn rfl ?_ | refine k_loope ?_ | refine k_loopr ?_ | refine s_t (by simp (disch := omega) only [go_sem, Nat.reduceLeDiff]) ?_ | refine i_draw (by decide +kernel) ?_ | refine r_rt ?_ | refine r_nm ?_ | refine k_d (by simp (disch := omega) only [go_sem, Nat.reduceLT, Nat.reduceEqDiff, ↓reduceIte, ne_eq, not_false_eq_true, Nat.reduceAdd, reduceCtorEq]) rfl ?_)
        all_goals rfl
      · rw [hnone fun h => c2 h.2.1]
        refine den_ex Tryz.func123 rfl Tryz.ntmps123 (by simp) _ Tryz.results123 ?_
        repeat' (first | refine i_seq ?_ | refine k_seq ?_ | refine i_region ?_ | refine l_o ?_ | refine l_nil ?_ | (show RD _ _; refine e_do (by simp (disch := omega) only [go_sem, seval, k]; exact IsX.mk) ?_) | refine s_f ?_ | refine f_s ?_ | refine f_n ?_ | refine l_g rfl rfl ?_ | refine x2_o rfl ?_ | refine x2_n rfl ?_ | refine x2_u ?_ | refine i_cnd rfl ?_ | refine q2_true ?_ | refine q2_false ?_ | refine i_skip ?_ | refine i_label ?_ | refine i_exit ?_ | refine i_ret ?_ | refine k_seqr ?_ | refine k_seqe ?_ | refine i_block ?_ | refine k_blk ?_ | refine k_blkr ?_ | refine k_blke ?_ | refine k_blkn rfl ?_ | refine k_loope ?_ | refine k_loopr ?_ | refine s_t (by simp (disch := omega) only [go_sem, Nat.reduceLeDiff]) ?_ | refine i_draw (by decide +kernel) ?_ | refine r_rt ?_ | refine r_nm ?_ | refine k_d (by simp (disch := omega) only [go_sem, Nat.reduceLT, Nat.reduceEqDiff, ↓reduceIte, ne_eq, not_false_eq_true, Nat.reduceAdd, reduceCtorEq]) rfl ?_)
        all_goals rfl
    · rw [hnone fun h => c1 h.1]
      refine den_ex Tryz.func123 rfl Tryz.ntmps123 (by simp) _ Tryz.results123 ?_
      repeat' (first | refine i_seq ?_ | refine k_seq ?_ | refine i_region ?_ | refine l_o ?_ | refine l_nil ?_ | (show RD _ _; refine e_do (by simp (disch := omega) only [go_sem, seval, k]; exact IsX.mk) ?_) | refine s_f ?_ | refine f_s ?_ | refine f_n ?_ | refine l_g rfl rfl ?_ | refine x2_o rfl ?_ | refine x2_n rfl ?_ | refine x2_u ?_ | refine i_cnd rfl ?_ | refine q2_true ?_ | refine q2_false ?_ | refine i_skip ?_ | refine i_label ?_ | refine i_exit ?_ | refine i_ret ?_ | refine k_seqr ?_ | refine k_seqe ?_ | refine i_block ?_ | refine k_blk ?_ | refine k_blkr ?_ | refine k_blke ?_ | refine k_blkn rfl ?_ | refine k_loope ?_ | refine k_loopr ?_ | refine s_t (by simp (disch := omega) only [go_sem, Nat.reduceLeDiff]) ?_ | refine i_draw (by decide +kernel) ?_ | refine r_rt ?_ | refine r_nm ?_ | refine k_d (by simp (disch := omega) only [go_sem, Nat.reduceLT, Nat.reduceEqDiff, ↓reduceIte, ne_eq, not_false_eq_true, Nat.reduceAdd, reduceCtorEq]) rfl ?_)
      all_goals rfl
  · have : (numO l).isSome = false := by
      cases hq : numO l with
      | none => rfl
      | some m => exact absurd (hno m hq) (h1 m)
    rw [this]
    refine den_ex Tryz.func123 rfl Tryz.ntmps123 (by simp) _ Tryz.results123 ?_
    repeat' (first | refine i_seq ?_ | refine k_seq ?_ | refine i_region ?_ | refine l_o ?_ | refine l_nil ?_ | (show RD _ _; refine e_do (by simp (disch := omega) only [go_sem, seval, k]; exact IsX.mk) ?_) | refine s_f ?_ | refine f_s ?_ | refine f_n ?_ | refine l_g rfl rfl ?_ | refine x2_o rfl ?_ | refine x2_n rfl ?_ | refine x2_u ?_ | refine i_cnd rfl ?_ | refine q2_true ?_ | refine q2_false ?_ | refine i_skip ?_ | refine i_label ?_ | refine i_exit ?_ | refine i_ret ?_ | refine k_seqr ?_ | refine k_seqe ?_ | refine i_block ?_ | refine k_blk ?_ | refine k_blkr ?_ | refine k_blke ?_ | refine k_blkn rfl ?_ | refine k_loope ?_ | refine k_loopr ?_ | refine s_t (by simp (disch := omega) only [go_sem, Nat.reduceLeDiff]) ?_ | refine i_draw (by decide +kernel) ?_ | refine r_rt ?_ | refine r_nm ?_ | refine k_d (by simp (disch := omega) only [go_sem, Nat.reduceLT, Nat.reduceEqDiff, ↓reduceIte, ne_eq, not_false_eq_true, Nat.reduceAdd, reduceCtorEq]) rfl ?_)
    all_goals rfl
end Go.Age
end
