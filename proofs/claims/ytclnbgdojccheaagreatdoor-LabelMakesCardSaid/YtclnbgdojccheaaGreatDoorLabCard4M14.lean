/- Part of the proof of LabelMakesCardSaid. -/
import Derived.Test.YtclnbgdojccheaaGreatDoorLabCard4M13
import Derived.Test.YtclnbgdojccheaaGreatDoorLabCard4M11
import Derived.KernelRfl
section
set_option linter.all false
set_option linter.unusedVariables false
set_option linter.unusedSimpArgs false
set_option maxRecDepth 100000
set_option maxHeartbeats 4000000
attribute [local irreducible] Go.Den.W Go.Den.WL Go.Den.WX Go.Den.WQ Go.Den.QR Go.Den.WG Go.Den.WO Go.Den.WK Go.Den.grows Go.Den.stepOp Go.Den.callV Go.Den.den
namespace Go.Age
open Go.Den Go.Proofs
@[go_sem] theorem grows_app2 (dr : Bool) (H a b : Hp) : grows dr (H ++ a) (H ++ b) = grows dr a b := by simp [grows]
theorem IsFill.unique {l : List FillD} {id i j : Int} (h : IsFill l id i) (h' : IsFill l id j) : i = j := by
  rcases Int.lt_trichotomy i j with e | e | e
  · exact absurd h.2.2.1 (h'.2.2.2 i h.1 e)
  · exact e
  · exact absurd h'.2.2.1 (h.2.2.2 j h'.1 e)
theorem IsFill.no {l : List FillD} {id i : Int} (h : IsFill l id i) (h' : NoFill l id l.length) : False := h' i h.1 h.2.1 h.2.2.1
theorem IsLot.unique {l : List LotD} {id i j : Int} (h : IsLot l id i) (h' : IsLot l id j) : i = j := by
  rcases Int.lt_trichotomy i j with e | e | e
  · exact absurd h.2.2.1 (h'.2.2.2 i h.1 e)
  · exact e
  · exact absurd h'.2.2.1 (h.2.2.2 j h'.1 e)
theorem IsLot.no {l : List LotD} {id i : Int} (h : IsLot l id i) (h' : NoLot l id l.length) : False := h' i h.1 h.2.1 h.2.2.1
theorem c50y (d : Nat) (c : CellarD) (id i : Int) (H : Hp) (hs : FillsSm c.fills) (hi : IsFill c.fills id i) : callV E (den E (d + 2)) 97 [.agg c.cells, i64 id] H = some (.tup [(fAt c.fills i).own H.length, bl true], H ++ [(fAt c.fills i).row]) := by
  obtain ⟨r, H1, h1, h2⟩ := f50 d c id hs
  rcases h2 with ⟨j, hj, k, rfl, h2⟩ | ⟨h2, _⟩
  · have := hi.unique hj
    subst this
    rw [callV_data (args' := [.agg c.cells, i64 id]) (r' := .tup [.agg [i64 (fAt c.fills i).id, i64 (fAt c.fills i).cls, i64 (fAt c.fills i).day, strC (fAt c.fills i).org, .fr ((fAt c.fills i).al.map strC) (fAt c.fills i).al.length 9 1], bl true]) rfl rfl rfl (by simp (disch := omega) only [go_sem, seval]) h1 (by simp (disch := omega) only [go_sem, seval, h2, len_al, Nat.mul_one]) (by simp (disch := omega) only [go_sem, seval])]
    simp (disch := omega) only [go_sem, seval]
  · exact (hi.no h2).elim
theorem c50n (d : Nat) (c : CellarD) (id : Int) (H : Hp) (hs : FillsSm c.fills) (hn : NoFill c.fills id c.fills.length) : callV E (den E (d + 2)) 97 [.agg c.cells, i64 id] H = some (.tup [noFill, bl false], H) := by
  obtain ⟨r, H1, h1, h2⟩ := f50 d c id hs
  rcases h2 with ⟨j, hj, k, rfl, h2⟩ | ⟨h2, rfl⟩
  · exact (hj.no hn).elim
  · exact callV_plain rfl rfl rfl (by simp (disch := omega) only [go_sem, seval]) ⟨H1, h1⟩ rfl
theorem c49y (d : Nat) (b : Bool) (l : List LotD) (id i : Int) (H : Hp) (hs : LotsSm l) (hi : IsLot l id i) : callV E (den E (d + 2)) 96 [sl b (flL l) l.length, i64 id] H = some (.tup [(lAt l i).own H.length, bl true], H ++ [(lAt l i).row]) := by
  obtain ⟨r, H1, h1, h2⟩ := f49 d b l id hs
  rcases h2 with ⟨j, hj, k, rfl, h2⟩ | ⟨h2, _⟩
  · have := hi.unique hj
    subst this
    have hl : (lAt l i).sh.length * 2 = 2 * (lAt l i).sh.length := Nat.mul_comm _ _
    rw [callV_data (args' := [sl b (flL l) l.length, i64 id]) (r' := .tup [.agg [i64 (lAt l i).id, i64 (lAt l i).alc, i64 (lAt l i).mass, .fr (flS (lAt l i).sh) (lAt l i).sh.length 66 2], bl true]) rfl rfl rfl (by simp (disch := omega) only [go_sem, seval]) h1 (by simp (disch := omega) only [go_sem, seval, h2, hl]) (by simp (disch := omega) only [go_sem, seval])]
    simp (disch := omega) only [go_sem, seval]
  · exact (hi.no h2).elim
theorem c49n (d : Nat) (b : Bool) (l : List LotD) (id : Int) (H : Hp) (hs : LotsSm l) (hn : NoLot l id l.length) : callV E (den E (d + 2)) 96 [sl b (flL l) l.length, i64 id] H = some (.tup [noLot, bl false], H) := by
  obtain ⟨r, H1, h1, h2⟩ := f49 d b l id hs
  rcases h2 with ⟨j, hj, k, rfl, h2⟩ | ⟨h2, rfl⟩
  · exact (hj.no hn).elim
  · exact callV_plain rfl rfl rfl (by simp (disch := omega) only [go_sem, seval]) ⟨H1, h1⟩ rfl
def FillsTo (l : List FillD) (i : Int) : Prop := 0 ≤ i ∧ i ≤ l.length ∧ ∀ j : Int, 0 ≤ j → j < i → fillS (fAt l j) = true ∧ (0 < j → (fAt l (j - 1)).id < (fAt l j).id)
theorem FillsTo.zero (l) : FillsTo l 0 := ⟨by omega, by omega, by omega⟩
theorem FillsTo.next {l : List FillD} {i : Int} (h : FillsTo l i) (hi : i < l.length) (h1 : fillS (fAt l i) = true) (h2 : 0 < i → (fAt l (i - 1)).id < (fAt l i).id) : FillsTo l (i + 1) := by
  obtain ⟨a, b, c⟩ := h
  refine ⟨by omega, by omega, fun j j1 j2 => ?_⟩
  by_cases e : j = i
  · subst e; exact ⟨h1, h2⟩
  · exact c j j1 (by omega)
def HasSh (c : CellarD) (x : LotD) (j : Int) : Prop := ∀ k : Int, 0 ≤ k → k < j → ∃ i, IsFill c.fills (sAt x.sh k).fill i
def HasLots (c : CellarD) (i : Int) : Prop := ∀ k : Int, 0 ≤ k → k < i → HasSh c (lAt c.lots k) (lAt c.lots k).sh.length
structure SoundP (c : CellarD) : Prop where
  nf : c.fills.length ≤ 64
  lots : LotsOk c.lots
  fills : FillsTo c.fills c.fills.length
  has : HasLots c c.lots.length
theorem shS_len {l : List ShD} {a : Int} (h : shS l a = 0) : l.length ≤ 32 ∧ ShP l ∧ sumS l l.length = a := by
  by_cases h1 : 32 < l.length
  · rw [sh_12 h1] at h; cases h
  · by_cases h2 : ShP l
    · by_cases h3 : sumS l l.length = a
      · exact ⟨by omega, h2, h3⟩
      · rw [sh_14 h1 h2 h3] at h; cases h
    · rw [sh_10 h1 h2] at h; cases h
theorem lotS_ok {x : LotD} (h : lotS x = 0) : plainS x.alc x.mass = true ∧ ¬ x.mass = 0 ∧ shS x.sh x.alc = 0 := by
  unfold lotS at h
  split at h
  · exact ⟨‹_ ∧ _›.1, ‹_ ∧ _›.2, h⟩
  · cases h
theorem flt_ok {l : List LotD} {i : Int} (h : fltS l i = 0) : (1 ≤ (lAt l i).id ∧ (lAt l i).id ≤ 1073741824) ∧ ¬ (0 < i ∧ (lAt l i).id ≤ (lAt l (i - 1)).id) ∧ lotS (lAt l i) = 0 := by
  by_cases h1 : 1 ≤ (lAt l i).id ∧ (lAt l i).id ≤ 1073741824
  · by_cases h2 : 0 < i ∧ (lAt l i).id ≤ (lAt l (i - 1)).id
    · rw [flt_5 h1 h2] at h; cases h
    · exact ⟨h1, h2, by rw [flt_l h1 h2] at h; exact h⟩
  · rw [flt_2 h1] at h; cases h
theorem LotsOk.sm {l : List LotD} (h : LotsOk l) : LotsSm l := ⟨by have := h.1; omega, fun i h1 h2 => by
  have := (shS_len (lotS_ok (flt_ok (h.2 i h1 h2)).2.2).2.2).1; omega⟩
open Classical in
noncomputable def fillIx (l : List FillD) (id : Int) : Int := if h : ∃ i, IsFill l id i then Classical.choose h else 0
theorem fillIx_is {l : List FillD} {id : Int} (h : ∃ i, IsFill l id i) : IsFill l id (fillIx l id) := by
  simp only [fillIx, dif_pos h]; exact Classical.choose_spec h
theorem no_or_fill (l : List FillD) (id : Int) : (∃ i, IsFill l id i) ∨ NoFill l id l.length := by
  have : ∀ n : Nat, n ≤ l.length → (∃ i, IsFill l id i) ∨ NoFill l id n := by
    intro n
    induction n with
    | zero => intro _; exact .inr fun j h1 h2 => by omega
    | succ n ih =>
      intro hn
      rcases ih (by omega) with h | h
      · exact .inl h
      · by_cases e : (fAt l n).id = id
        · exact .inl ⟨n, by omega, by omega, e, h⟩
        · refine .inr fun j h1 h2 => ?_
          by_cases ej : j = n
          · subst ej; exact e
          · exact h j h1 (by omega)
  exact this l.length (Nat.le_refl _)
theorem no_or_lot (l : List LotD) (id : Int) : (∃ i, IsLot l id i) ∨ NoLot l id l.length := by
  have : ∀ n : Nat, n ≤ l.length → (∃ i, IsLot l id i) ∨ NoLot l id n := by
    intro n
    induction n with
    | zero => intro _; exact .inr fun j h1 h2 => by omega
    | succ n ih =>
      intro hn
      rcases ih (by omega) with h | h
      · exact .inl h
      · by_cases e : (lAt l n).id = id
        · exact .inl ⟨n, by omega, by omega, e, h⟩
        · refine .inr fun j h1 h2 => ?_
          by_cases ej : j = n
          · subst ej; exact e
          · exact h j h1 (by omega)
  exact this l.length (Nat.le_refl _)

theorem f67 (d : Nat) (c : CellarD) (hs : FillsSm c.fills) : ∃ r H0, den E (d + 5) 95 [.agg c.cells] [] = some (r, H0) ∧ ∃ b : Bool, r = bl b ∧ (b = true ↔ SoundP c) := by
  refine den_of_W Tryz.func95 rfl Tryz.ntmps95 (by simp) _ Tryz.results95 ?_
  obtain ⟨r, H1, k1, b, rfl, k2⟩ := f92 d c.nilL c.lots
  have k : ∀ H, callV E (den E (d + 4)) 128 [sl c.nilL (flL c.lots) c.lots.length] H = some (bl b, H) := fun H => callV_plain rfl rfl rfl (by simp (disch := omega) only [go_sem, seval]) ⟨H1, k1⟩ rfl
  have no : ¬ SoundP c → ∃ b : Bool, CV.v (Value.bool false) = bl b ∧ (b = true ↔ SoundP c) := fun h => ⟨false, rfl, ⟨fun e => (by cases e), fun e => absurd e h⟩⟩
  by_cases hn : c.fills.length ≤ 64
  · cases b
    · repeat' (first | refine i_seq ?_ | refine k_seq ?_ | refine i_region ?_ | refine l_o ?_ | refine l_nil ?_ | (show RD _ _; refine e_do (by simp (disch := omega) only [go_sem, seval, k]; exact IsX.mk) ?_) | refine s_f ?_ | refine f_s ?_ | refine f_n ?_ | refine st2 ?_)
      exact no fun h => by have := k2.2 h.lots; cases this
    · have hok := k2.1 rfl
      have hsm := hok.sm
      have hsn := hsm.n
      repeat' (first | refine i_seq ?_ | refine k_seq ?_ | refine i_region ?_ | refine l_o ?_ | refine l_nil ?_ | (show RD _ _; refine e_do (by simp (disch := omega) only [go_sem, seval, k]; exact IsX.mk) ?_) | refine s_f ?_ | refine f_s ?_ | refine f_n ?_ | refine st2 ?_)
      refine i_loop (fun i : Int => upd (upd jk 3 (i64 i)) 1 (.op 0 0)) (fun i : Int => [.row ⟨c.cells, 25, 4, true⟩])
        (fun i => (c.fills.length - i).toNat) (fun i => FillsTo c.fills i) 0 (by simp only [rounds]; omega) (by simp (disch := omega) only [go_sem, seval]) (by simp (disch := omega) only [go_sem, seval]) (FillsTo.zero _) ?_
      intro i hto
      have h1 : 0 ≤ i := hto.1
      have h2 : i ≤ c.fills.length := hto.2.1
      by_cases hi : i < c.fills.length
      · have s2 := hs.f i h1 hi
        by_cases e : fillS (fAt c.fills i) = true
        · have kc := fun H => c93 (d + 2) (fAt c.fills i) H s2
          repeat' (first | (first | refine i_seq ?_ | refine k_seq ?_ | refine i_region ?_ | refine l_o ?_ | refine l_nil ?_ | (show RD _ _; refine e_do (by simp (disch := omega) only [go_sem, seval, wr64, kc, e]; exact IsX.mk) ?_) | refine s_f ?_ | refine f_s ?_ | refine f_n ?_ | refine st2 ?_) | (first | refine x2_split (fun h => ?_) (fun h => ?_) | refine q2_split (fun h => ?_) (fun h => ?_)) <;> (try simp only [beq_iff_eq, bne_iff_ne, beq_eq_false_iff_ne, bne_eq_false_iff_eq, ne_eq, decide_eq_true_eq, decide_eq_false_iff_not, gt_iff_lt, ge_iff_le, Bool.not_eq_true', Bool.not_eq_false'] at h))
          · exact no fun h => by have := (h.fills.2.2 i h1 hi).2 (by omega); omega
          · exact k_loop (i + 1) (by omega) (by simp (disch := omega) only [go_sem, seval, wr64]) rfl (hto.next hi e fun _ => by omega)
          · exact k_loop (i + 1) (by omega) (by simp (disch := omega) only [go_sem, seval, wr64]) rfl (hto.next hi e fun _ => by omega)
        · have e' := Bool.eq_false_iff.2 e
          have kc := fun H => c93 (d + 2) (fAt c.fills i) H s2
          repeat' (first | refine i_seq ?_ | refine k_seq ?_ | refine i_region ?_ | refine l_o ?_ | refine l_nil ?_ | (show RD _ _; refine e_do (by simp (disch := omega) only [go_sem, seval, wr64, kc, e']; exact IsX.mk) ?_) | refine s_f ?_ | refine f_s ?_ | refine f_n ?_ | refine st2 ?_)
          exact no fun h => e (h.fills.2.2 i h1 hi).1
      · have : i = c.fills.length := by omega
        subst this
        repeat' (first | refine i_seq ?_ | refine k_seq ?_ | refine i_region ?_ | refine l_o ?_ | refine l_nil ?_ | (show RD _ _; refine e_do (by simp (disch := omega) only [go_sem, seval]; exact IsX.mk) ?_) | refine s_f ?_ | refine f_s ?_ | refine f_n ?_ | refine st2 ?_)
        refine i_loop (fun a : Int × Hp => upd (upd jk 4 (i64 a.1)) 1 (.op 0 0)) (fun a : Int × Hp => .row ⟨c.cells, 25, 4, true⟩ :: a.2)
          (fun a => (c.lots.length - a.1).toNat) (fun a => 0 ≤ a.1 ∧ a.1 ≤ c.lots.length ∧ HasLots c a.1) (0, []) (by simp only [rounds]; have := hsm.n; omega) (by simp (disch := omega) only [go_sem, seval]) (by simp (disch := omega) only [go_sem, seval]) ⟨by simp only; omega, by simp only; omega, fun j j1 j2 => by simp only at j2; omega⟩ ?_
        rintro ⟨i, G⟩ ⟨g1, g2, g3⟩
        simp only at g1 g2 g3
        by_cases hi : i < c.lots.length
        · have s3 := hsm.s i g1 hi
          repeat' (first | refine i_seq ?_ | refine k_seq ?_ | refine i_region ?_ | refine l_o ?_ | refine l_nil ?_ | (show RD _ _; refine e_do (by simp (disch := omega) only [go_sem, seval, wr64]; exact IsX.mk) ?_) | refine s_f ?_ | refine f_s ?_ | refine f_n ?_ | refine st2 ?_)
          refine i_loop (fun a : Int × Hp => upd (upd (upd jk 5 (i64 a.1)) 4 (i64 i)) 1 (.op 0 0)) (fun a : Int × Hp => .row ⟨c.cells, 25, 4, true⟩ :: a.2)
            (fun a => ((lAt c.lots i).sh.length - a.1).toNat) (fun a => 0 ≤ a.1 ∧ a.1 ≤ (lAt c.lots i).sh.length ∧ HasSh c (lAt c.lots i) a.1) (0, G) (by simp only [rounds]; omega) (by simp (disch := omega) only [go_sem, seval]) (by simp (disch := omega) only [go_sem, seval]) ⟨by simp only; omega, by simp only; omega, fun j j1 j2 => by simp only at j2; omega⟩ ?_
          rintro ⟨j, G'⟩ ⟨q1, q2, q3⟩
          simp only at q1 q2 q3
          by_cases hj : j < (lAt c.lots i).sh.length
          · rcases no_or_fill c.fills (sAt (lAt c.lots i).sh j).fill with ⟨t, ht⟩ | hno
            · have kf := fun H => c50y (d + 2) c (sAt (lAt c.lots i).sh j).fill t H hs ht
              repeat' (first | refine i_seq ?_ | refine k_seq ?_ | refine i_region ?_ | refine l_o ?_ | refine l_nil ?_ | (show RD _ _; refine e_do (by simp (disch := omega) only [go_sem, seval, wr64, kf]; exact IsX.mk) ?_) | refine s_f ?_ | refine f_s ?_ | refine f_n ?_ | refine st2 ?_)
              refine k_loop (j + 1, _) (by simp only; omega) (by simp (disch := omega) only [go_sem, seval, wr64]) rfl ⟨by simp only; omega, by simp only; omega, fun k j1 j2 => ?_⟩
              simp only at j2
              by_cases ek : k = j
              · subst ek; exact ⟨t, ht⟩
              · exact q3 k j1 (by omega)
            · have kf := fun H => c50n (d + 2) c (sAt (lAt c.lots i).sh j).fill H hs hno
              repeat' (first | refine i_seq ?_ | refine k_seq ?_ | refine i_region ?_ | refine l_o ?_ | refine l_nil ?_ | (show RD _ _; refine e_do (by simp (disch := omega) only [go_sem, seval, wr64, kf]; exact IsX.mk) ?_) | refine s_f ?_ | refine f_s ?_ | refine f_n ?_ | refine st2 ?_)
              exact no fun h => by
                obtain ⟨t, ht⟩ := h.has i g1 hi j q1 hj
                exact ht.no hno
          · have : j = (lAt c.lots i).sh.length := by omega
            subst this
            repeat' (first | refine i_seq ?_ | refine k_seq ?_ | refine i_region ?_ | refine l_o ?_ | refine l_nil ?_ | (show RD _ _; refine e_do (by simp (disch := omega) only [go_sem, seval, wr64]; exact IsX.mk) ?_) | refine s_f ?_ | refine f_s ?_ | refine f_n ?_ | refine st2 ?_)
            refine k_loop (i + 1, _) (by simp only; omega) (by simp (disch := omega) only [go_sem, seval, wr64]) rfl ⟨by simp only; omega, by simp only; omega, fun k j1 j2 => ?_⟩
            simp only at j2
            by_cases ek : k = i
            · subst ek; exact q3
            · exact g3 k j1 (by omega)
        · have : i = c.lots.length := by omega
          subst this
          repeat' (first | refine i_seq ?_ | refine k_seq ?_ | refine i_region ?_ | refine l_o ?_ | refine l_nil ?_ | (show RD _ _; refine e_do (by simp (disch := omega) only [go_sem, seval]; exact IsX.mk) ?_) | refine s_f ?_ | refine f_s ?_ | refine f_n ?_ | refine st2 ?_)
          exact ⟨true, rfl, ⟨fun _ => ⟨hn, hok, hto, g3⟩, fun _ => rfl⟩⟩
  · repeat' (first | refine i_seq ?_ | refine k_seq ?_ | refine i_region ?_ | refine l_o ?_ | refine l_nil ?_ | (show RD _ _; refine e_do (by simp (disch := omega) only [go_sem, seval, k]; exact IsX.mk) ?_) | refine s_f ?_ | refine f_s ?_ | refine f_n ?_ | refine st2 ?_)
    exact no fun h => hn h.nf
end Go.Age
end
section
set_option linter.all false
set_option linter.unusedVariables false
set_option linter.unusedSimpArgs false
set_option maxRecDepth 100000
set_option maxHeartbeats 4000000
attribute [local irreducible] Go.Den.W Go.Den.WL Go.Den.WX Go.Den.WQ Go.Den.QR Go.Den.WG Go.Den.WO Go.Den.WK Go.Den.grows Go.Den.stepOp Go.Den.callV Go.Den.den
namespace Go.Age
open Go.Den Go.Proofs
theorem getR_old {G : Hp} {k : Nat} {r : Row} (h : getR G k = some r) (l : Hp) : getR (G ++ l) k = some r := by
  unfold getR at *
  have hk : k < G.length := by
    rcases Nat.lt_or_ge k G.length with h1 | h1
    · exact h1
    · rw [List.getElem?_eq_none h1] at h; cases h
  rw [List.getElem?_append_left hk]; exact h
noncomputable def fOf (c : CellarD) (id : Int) : FillD := fAt c.fills (fillIx c.fills id)
noncomputable def ygN (c : CellarD) (sh : List ShD) : Nat → FillD
  | 0 => default
  | n + 1 => if n = 0 then fOf c (sAt sh n).fill else if (ygN c sh n).day < (fOf c (sAt sh n).fill).day then fOf c (sAt sh n).fill else ygN c sh n
noncomputable def ygS (c : CellarD) (x : LotD) : FillD := ygN c x.sh x.sh.length
theorem yg_one {c sh} : ygN c sh 1 = fOf c (sAt sh 0).fill := by simp [ygN]
theorem yg_next {c sh} {i : Int} (h : 0 < i) : ygN c sh (i + 1).toNat = if (ygN c sh i.toNat).day < (fOf c (sAt sh i).fill).day then fOf c (sAt sh i).fill else ygN c sh i.toNat := by
  rw [show (i + 1).toNat = i.toNat + 1 by omega, ygN, if_neg (by omega), show ((i.toNat : Nat) : Int) = i by omega]
theorem f45 (d : Nat) (c : CellarD) (x : LotD) (hs : FillsSm c.fills) (hl : x.sh.length ≤ 1000) (h0 : 0 < x.sh.length) (hh : HasSh c x x.sh.length) : ∃ r H1, den E (d + 3) 135 [.agg c.cells, .agg x.cells] [] = some (r, H1) ∧
    ∃ k, r = (ygS c x).own k ∧ getR H1 k = some ⟨(ygS c x).al.map strC, 9, 1, true⟩ := by
  refine den_of_W Tryz.func135 rfl Tryz.ntmps135 (by simp) _ Tryz.results135 ?_
  repeat' (first | refine i_seq ?_ | refine k_seq ?_ | refine i_region ?_ | refine l_o ?_ | refine l_nil ?_ | (show RD _ _; refine e_do (by simp (disch := omega) only [go_sem, seval]; exact IsX.mk) ?_) | refine s_f ?_ | refine f_s ?_ | refine f_n ?_ | refine st2 ?_)
  refine i_loop (fun a : Int × List CV × Hp => upd (upd (upd (upd (upd jk 6 (i64 a.1)) 5 (.op 3 0)) 4 (.op 2 0)) 3 (.op 1 0)) 2 (.op 0 0))
    (fun a : Int × List CV × Hp => .row ⟨c.cells, 25, 4, true⟩ :: .row ⟨x.cells, 53, 4, true⟩ :: .row ⟨[i64 0, i64 0, i64 0, strC ⟨#[]⟩, .v (.slice none 0 0)], 69, 5, true⟩ :: .row ⟨a.2.1, 69, 5, true⟩ :: a.2.2)
    (fun a => (x.sh.length - a.1).toNat) (fun a => 0 ≤ a.1 ∧ a.1 ≤ x.sh.length ∧ ((a.1 = 0 ∧ a.2.1 = [i64 0, i64 0, i64 0, strC ⟨#[]⟩, .v (.slice none 0 0)]) ∨ (0 < a.1 ∧ ∃ k, CV.agg a.2.1 = (ygN c x.sh a.1.toNat).own (k + 4) ∧ getR a.2.2 k = some ⟨(ygN c x.sh a.1.toNat).al.map strC, 9, 1, true⟩)))
    (0, [i64 0, i64 0, i64 0, strC ⟨#[]⟩, .v (.slice none 0 0)], []) (by simp only [rounds]; omega) (by simp (disch := omega) only [go_sem, seval]) (by simp (disch := omega) only [go_sem, seval]) ⟨by simp only; omega, by simp only; omega, .inl ⟨rfl, rfl⟩⟩ ?_
  rintro ⟨i, ys, G⟩ ⟨h1, h2, h3⟩
  simp only at h1 h2 h3
  by_cases hi : i < x.sh.length
  · have hf := fillIx_is (hh i h1 hi)
    have kf := fun H => c50y d c (sAt x.sh i).fill (fillIx c.fills (sAt x.sh i).fill) H hs hf
    have ef : fAt c.fills (fillIx c.fills (sAt x.sh i).fill) = fOf c (sAt x.sh i).fill := rfl
    rw [ef] at kf
    rcases h3 with ⟨hz, rfl⟩ | ⟨hp, k, hk, hg⟩
    · have e1 : (i + 1).toNat = 1 := by omega
      have e2 : fOf c (sAt x.sh i).fill = ygN c x.sh (i + 1).toNat := by rw [e1, yg_one, hz]
      repeat' (first | refine i_seq ?_ | refine k_seq ?_ | refine i_region ?_ | refine l_o ?_ | refine l_nil ?_ | (show RD _ _; refine e_do (by simp (disch := omega) only [go_sem, seval, wr64, kf]; exact IsX.mk) ?_) | refine s_f ?_ | refine f_s ?_ | refine f_n ?_ | refine st2 ?_)
      refine k_loop (i + 1, _, _) (by simp only; omega) (by simp (disch := omega) only [go_sem, seval, wr64]) rfl ⟨by simp only; omega, by simp only; omega, .inr ⟨by simp only; omega, G.length, ?_, ?_⟩⟩
      · simp only [e2]
      · simp only [e2]; simp (disch := omega) only [go_sem, seval]
    · simp only [CV.agg.injEq] at hk
      subst hk
      by_cases hd : (ygN c x.sh i.toNat).day < (fOf c (sAt x.sh i).fill).day
      · repeat' (first | refine i_seq ?_ | refine k_seq ?_ | refine i_region ?_ | refine l_o ?_ | refine l_nil ?_ | (show RD _ _; refine e_do (by simp (disch := omega) only [go_sem, seval, wr64, kf]; exact IsX.mk) ?_) | refine s_f ?_ | refine f_s ?_ | refine f_n ?_ | refine st2 ?_)
        refine k_loop (i + 1, _, _) (by simp only; omega) (by simp (disch := omega) only [go_sem, seval, wr64]) rfl ⟨by simp only; omega, by simp only; omega, .inr ⟨by simp only; omega, G.length, ?_, ?_⟩⟩
        · simp only [yg_next hp, if_pos hd]
        · simp only [yg_next hp, if_pos hd]; simp (disch := omega) only [go_sem, seval]
      · repeat' (first | refine i_seq ?_ | refine k_seq ?_ | refine i_region ?_ | refine l_o ?_ | refine l_nil ?_ | (show RD _ _; refine e_do (by simp (disch := omega) only [go_sem, seval, wr64, kf]; exact IsX.mk) ?_) | refine s_f ?_ | refine f_s ?_ | refine f_n ?_ | refine st2 ?_)
        refine k_loop (i + 1, _, _) (by simp only; omega) (by simp (disch := omega) only [go_sem, seval, wr64]) rfl ⟨by simp only; omega, by simp only; omega, .inr ⟨by simp only; omega, k, ?_, ?_⟩⟩
        · simp only [yg_next hp, if_neg hd]
        · simp only [yg_next hp, if_neg hd]; exact getR_old hg _
  · have : i = x.sh.length := by omega
    subst this
    rcases h3 with ⟨h3, _⟩ | ⟨hp, k, hk, hg⟩
    · omega
    · simp only [CV.agg.injEq] at hk
      subst hk
      repeat' (first | refine i_seq ?_ | refine k_seq ?_ | refine i_region ?_ | refine l_o ?_ | refine l_nil ?_ | (show RD _ _; refine e_do (by simp (disch := omega) only [go_sem, seval]; exact IsX.mk) ?_) | refine s_f ?_ | refine f_s ?_ | refine f_n ?_ | refine st2 ?_)
      exact ⟨k + 4, rfl, by simp (disch := omega) only [go_sem, seval]; exact hg⟩
theorem c45 (d : Nat) (c : CellarD) (x : LotD) (H : Hp) (k : Nat) (hs : FillsSm c.fills) (hl : x.sh.length ≤ 1000) (h0 : 0 < x.sh.length) (hh : HasSh c x x.sh.length) (hk : getR H k = some ⟨flS x.sh, 66, 2, true⟩) :
    callV E (den E (d + 3)) 135 [.agg c.cells, x.own k] H = some ((ygS c x).own H.length, H ++ [(ygS c x).row]) := by
  obtain ⟨r, H1, h1, k1, rfl, h2⟩ := f45 d c { x with nilS := false } hs hl h0 hh
  have e : ygS c { x with nilS := false } = ygS c x := rfl
  rw [e] at h1 h2
  have hlen : x.sh.length * 2 = 2 * x.sh.length := Nat.mul_comm _ _
  have hlen2 : (flS x.sh).length = x.sh.length * 2 := by rw [len_flS]; omega
  rw [callV_data (args' := [.agg c.cells, .agg ({ x with nilS := false } : LotD).cells]) (r' := .agg [i64 (ygS c x).id, i64 (ygS c x).cls, i64 (ygS c x).day, strC (ygS c x).org, .fr ((ygS c x).al.map strC) (ygS c x).al.length 9 1]) rfl rfl rfl (by simp (disch := omega) only [go_sem, seval, hk, hlen, Nat.zero_add, Nat.le_refl, List.drop_zero, List.take_of_length_le, sl_ro]; try rfl) h1 (by simp (disch := omega) only [go_sem, seval, h2, len_al, Nat.mul_one]) (by simp (disch := omega) only [go_sem, seval])]
  simp (disch := omega) only [go_sem, seval]
open Classical in
noncomputable def errL (c : CellarD) (id : Int) : Int := if ¬ SoundP c then 1 else if NoLot c.lots id c.lots.length then 7 else 0
open Classical in
noncomputable def lotIx (c : CellarD) (id : Int) : Int := if h : ∃ i, IsLot c.lots id i then Classical.choose h else 0
theorem lotIx_is {c : CellarD} {id : Int} (h : ∃ i, IsLot c.lots id i) : IsLot c.lots id (lotIx c id) := by
  simp only [lotIx, dif_pos h]; exact Classical.choose_spec h
noncomputable def lotOf (c : CellarD) (id : Int) : LotD := lAt c.lots (lotIx c id)
theorem err_1 {c id} (h : ¬ SoundP c) : errL c id = 1 := by simp [errL, h]
theorem err_7 {c id} (h : SoundP c) (h2 : NoLot c.lots id c.lots.length) : errL c id = 7 := by simp [errL, h, h2]
theorem err_0 {c id} (h : SoundP c) (h2 : ∃ i, IsLot c.lots id i) : errL c id = 0 := by
  obtain ⟨i, hi⟩ := h2
  have hn : ¬ NoLot c.lots id c.lots.length := fun hn => hi.no hn
  simp [errL, h, hn]
theorem c67 (d : Nat) (c : CellarD) (H : Hp) (hs : FillsSm c.fills) : ∃ b : Bool, callV E (den E (d + 5)) 95 [.agg c.cells] H = some (bl b, H) ∧ (b = true ↔ SoundP c) := by
  obtain ⟨r, H0, h1, b, rfl, h2⟩ := f67 d c hs
  exact ⟨b, callV_plain rfl rfl rfl (by simp (disch := omega) only [go_sem, seval]) ⟨H0, h1⟩ rfl, h2⟩
theorem f44 (d : Nat) (c : CellarD) (id : Int) (hs : FillsSm c.fills) : ∃ r H1, den E (d + 6) 58 [.agg c.cells, i64 id] [] = some (r, H1) ∧
    ((errL c id = 0 ∧ ∃ k, r = .tup [(lotOf c id).own k, i64 0] ∧ getR H1 k = some ⟨flS (lotOf c id).sh, 66, 2, true⟩) ∨ (errL c id ≠ 0 ∧ r = .tup [noLot, i64 (errL c id)])) := by
  refine den_of_W Tryz.func58 rfl Tryz.ntmps58 (by simp) _ Tryz.results58 ?_
  obtain ⟨b, k1, k2⟩ := c67 d c [.row ⟨c.cells, 25, 4, true⟩, .row ⟨[i64 0, i64 0, i64 0, .v (.slice none 0 0)], 53, 4, true⟩] hs
  cases b
  · have hn : ¬ SoundP c := fun h => by have := k2.2 h; cases this
    repeat' (first | refine i_seq ?_ | refine k_seq ?_ | refine i_region ?_ | refine l_o ?_ | refine l_nil ?_ | (show RD _ _; refine e_do (by simp (disch := omega) only [go_sem, seval, k1]; exact IsX.mk) ?_) | refine s_f ?_ | refine f_s ?_ | refine f_n ?_ | refine st2 ?_)
    exact .inr ⟨by rw [err_1 hn]; decide, by rw [err_1 hn]⟩
  · have hS := k2.1 rfl
    have hsm := hS.lots.sm
    rcases no_or_lot c.lots id with hex | hno
    · have kf := fun H => c49y (d + 3) c.nilL c.lots id (lotIx c id) H hsm (lotIx_is hex)
      have ef : lAt c.lots (lotIx c id) = lotOf c id := rfl
      rw [ef] at kf
      repeat' (first | refine i_seq ?_ | refine k_seq ?_ | refine i_region ?_ | refine l_o ?_ | refine l_nil ?_ | (show RD _ _; refine e_do (by simp (disch := omega) only [go_sem, seval, k1, kf]; exact IsX.mk) ?_) | refine s_f ?_ | refine f_s ?_ | refine f_n ?_ | refine st2 ?_)
      first
        | exact .inl ⟨err_0 hS hex, 2, rfl, by simp (disch := omega) only [go_sem, seval]⟩
        | trace_state
    · have kf := fun H => c49n (d + 3) c.nilL c.lots id H hsm hno
      repeat' (first | refine i_seq ?_ | refine k_seq ?_ | refine i_region ?_ | refine l_o ?_ | refine l_nil ?_ | (show RD _ _; refine e_do (by simp (disch := omega) only [go_sem, seval, k1, kf]; exact IsX.mk) ?_) | refine s_f ?_ | refine f_s ?_ | refine f_n ?_ | refine st2 ?_)
      exact .inr ⟨by rw [err_7 hS hno]; decide, by rw [err_7 hS hno]⟩
end Go.Age
end
section
set_option linter.all false
set_option linter.unusedVariables false
set_option linter.unusedSimpArgs false
set_option maxRecDepth 100000
set_option maxHeartbeats 4000000
attribute [local irreducible] Go.Den.W Go.Den.WL Go.Den.WX Go.Den.WQ Go.Den.QR Go.Den.WG Go.Den.WO Go.Den.WK Go.Den.grows Go.Den.stepOp Go.Den.callV Go.Den.den
namespace Go.Age
open Go.Den Go.Proofs
theorem drop_flS1 (l : List ShD) (i : Int) (h : 0 ≤ i ∧ i < l.length) : List.drop (i.toNat * 2 + 1) (flS l) = i64 (sAt l i).alc :: List.drop ((i.toNat + 1) * 2) (flS l) := by
  rw [← List.drop_drop, drop_flS l i h]; rfl
attribute [go_sem] drop_flS1
theorem err_inv {c : CellarD} {id : Int} (h : errL c id = 0) : SoundP c ∧ ∃ i, IsLot c.lots id i := by
  by_cases h1 : SoundP c
  · rcases no_or_lot c.lots id with h2 | h2
    · exact ⟨h1, h2⟩
    · rw [err_7 h1 h2] at h; cases h
  · rw [err_1 h1] at h; cases h
theorem c44y (d : Nat) (c : CellarD) (id : Int) (H : Hp) (hs : FillsSm c.fills) (h : errL c id = 0) : callV E (den E (d + 6)) 58 [.agg c.cells, i64 id] H = some (.tup [(lotOf c id).own H.length, i64 0], H ++ [(lotOf c id).row]) := by
  obtain ⟨r, H1, h1, h2⟩ := f44 d c id hs
  rcases h2 with ⟨_, k, rfl, h2⟩ | ⟨h2, _⟩
  · have hl : (lotOf c id).sh.length * 2 = 2 * (lotOf c id).sh.length := Nat.mul_comm _ _
    rw [callV_data (args' := [.agg c.cells, i64 id]) (r' := .tup [.agg [i64 (lotOf c id).id, i64 (lotOf c id).alc, i64 (lotOf c id).mass, .fr (flS (lotOf c id).sh) (lotOf c id).sh.length 66 2], i64 0]) rfl rfl rfl (by simp (disch := omega) only [go_sem, seval]) h1 (by simp (disch := omega) only [go_sem, seval, h2, hl]) (by simp (disch := omega) only [go_sem, seval])]
    simp (disch := omega) only [go_sem, seval]
  · exact absurd h h2
theorem c44n (d : Nat) (c : CellarD) (id : Int) (H : Hp) (hs : FillsSm c.fills) (h : errL c id ≠ 0) : callV E (den E (d + 6)) 58 [.agg c.cells, i64 id] H = some (.tup [noLot, i64 (errL c id)], H) := by
  obtain ⟨r, H1, h1, h2⟩ := f44 d c id hs
  rcases h2 with ⟨h2, _⟩ | ⟨_, rfl⟩
  · exact absurd h2 h
  · exact callV_plain rfl rfl rfl (by simp (disch := omega) only [go_sem, seval]) ⟨H1, h1⟩ rfl
noncomputable def errY (c : CellarD) (id : Int) : Int := if errL c id ≠ 0 then errL c id else if (lotOf c id).sh.length = 0 then 9 else 0
theorem errY_l {c id} (h : errL c id ≠ 0) : errY c id = errL c id := by simp only [errY, if_pos h]
theorem errY_9 {c id} (h : errL c id = 0) (h2 : (lotOf c id).sh.length = 0) : errY c id = 9 := by simp [errY, h, h2]
theorem errY_0 {c id} (h : errL c id = 0) (h2 : ¬ (lotOf c id).sh.length = 0) : errY c id = 0 := by simp [errY, h, h2]
noncomputable def ygL (c : CellarD) (id : Int) : FillD := ygS c (lotOf c id)
theorem lot_facts {c : CellarD} {id : Int} (h : errL c id = 0) : (lotOf c id).sh.length ≤ 32 ∧ HasSh c (lotOf c id) (lotOf c id).sh.length ∧ ShP (lotOf c id).sh ∧ sumS (lotOf c id).sh (lotOf c id).sh.length = (lotOf c id).alc ∧ IsLot c.lots id (lotIx c id) := by
  obtain ⟨hS, hx⟩ := err_inv h
  have hi := lotIx_is hx
  have a := shS_len (lotS_ok (flt_ok (hS.lots.2 _ hi.1 hi.2.1)).2.2).2.2
  exact ⟨a.1, hS.has _ hi.1 hi.2.1, a.2.1, a.2.2, hi⟩
theorem f12 (d : Nat) (c : CellarD) (id : Int) (hs : FillsSm c.fills) : ∃ r H1, den E (d + 7) 103 [.agg c.cells, i64 id] [] = some (r, H1) ∧
    ((errY c id = 0 ∧ ∃ k, r = .tup [(ygL c id).own k, i64 0] ∧ getR H1 k = some ⟨(ygL c id).al.map strC, 9, 1, true⟩) ∨ (errY c id ≠ 0 ∧ r = .tup [noFill, i64 (errY c id)])) := by
  refine den_of_W Tryz.func103 rfl Tryz.ntmps103 (by simp) _ Tryz.results103 ?_
  by_cases he : errL c id = 0
  · have kf := fun H => c44y d c id H hs he
    obtain ⟨l1, l2, l3, l4, l5⟩ := lot_facts he
    by_cases h0 : (lotOf c id).sh.length = 0
    · repeat' (first | refine i_seq ?_ | refine k_seq ?_ | refine i_region ?_ | refine l_o ?_ | refine l_nil ?_ | (show RD _ _; refine e_do (by simp (disch := omega) only [go_sem, seval, kf]; exact IsX.mk) ?_) | refine s_f ?_ | refine f_s ?_ | refine f_n ?_ | refine st2 ?_)
      exact .inr ⟨by rw [errY_9 he h0]; decide, by rw [errY_9 he h0]⟩
    · have k2 := c45 (d + 3) c (lotOf c id) [.row ⟨c.cells, 25, 4, true⟩, .row ⟨[i64 0, i64 0, i64 0, strC ⟨#[]⟩, .v (.slice none 0 0)], 69, 5, true⟩, (lotOf c id).row, .row ⟨[i64 (lotOf c id).id, i64 (lotOf c id).alc, i64 (lotOf c id).mass, .own 2 0 (lotOf c id).sh.length 2], 53, 4, true⟩] 2 hs (by omega) (by omega) l2 rfl
      repeat' (first | refine i_seq ?_ | refine k_seq ?_ | refine i_region ?_ | refine l_o ?_ | refine l_nil ?_ | (show RD _ _; refine e_do (by simp (disch := omega) only [go_sem, seval, kf, k2]; exact IsX.mk) ?_) | refine s_f ?_ | refine f_s ?_ | refine f_n ?_ | refine st2 ?_)
      exact .inl ⟨errY_0 he h0, 4, rfl, rfl⟩
  · have kf := fun H => c44n d c id H hs he
    repeat' (first | refine i_seq ?_ | refine k_seq ?_ | refine i_region ?_ | refine l_o ?_ | refine l_nil ?_ | (show RD _ _; refine e_do (by simp (disch := omega) only [go_sem, seval, kf]; exact IsX.mk) ?_) | refine s_f ?_ | refine f_s ?_ | refine f_n ?_ | refine st2 ?_)
    exact .inr ⟨by rw [errY_l he]; exact he, by rw [errY_l he]⟩
theorem c12y (d : Nat) (c : CellarD) (id : Int) (H : Hp) (hs : FillsSm c.fills) (h : errY c id = 0) : callV E (den E (d + 7)) 103 [.agg c.cells, i64 id] H = some (.tup [(ygL c id).own H.length, i64 0], H ++ [(ygL c id).row]) := by
  obtain ⟨r, H1, h1, h2⟩ := f12 d c id hs
  rcases h2 with ⟨_, k, rfl, h2⟩ | ⟨h2, _⟩
  · rw [callV_data (args' := [.agg c.cells, i64 id]) (r' := .tup [.agg [i64 (ygL c id).id, i64 (ygL c id).cls, i64 (ygL c id).day, strC (ygL c id).org, .fr ((ygL c id).al.map strC) (ygL c id).al.length 9 1], i64 0]) rfl rfl rfl (by simp (disch := omega) only [go_sem, seval]) h1 (by simp (disch := omega) only [go_sem, seval, h2, len_al, Nat.mul_one]) (by simp (disch := omega) only [go_sem, seval])]
    simp (disch := omega) only [go_sem, seval]
  · exact absurd h h2
theorem c12n (d : Nat) (c : CellarD) (id : Int) (H : Hp) (hs : FillsSm c.fills) (h : errY c id ≠ 0) : callV E (den E (d + 7)) 103 [.agg c.cells, i64 id] H = some (.tup [noFill, i64 (errY c id)], H) := by
  obtain ⟨r, H1, h1, h2⟩ := f12 d c id hs
  rcases h2 with ⟨h2, _⟩ | ⟨_, rfl⟩
  · exact absurd h2 h
  · exact callV_plain rfl rfl rfl (by simp (disch := omega) only [go_sem, seval]) ⟨H1, h1⟩ rfl
noncomputable def yearsR (c : CellarD) (id day : Int) : Int × Int := if errY c id = 0 then calYears (ygL c id).day day else (0, errY c id)
noncomputable def mnN (c : CellarD) (sh : List ShD) (day : Int) : Nat → Int
  | 0 => 0
  | n + 1 => IntKind.wrap .i64 (mnN c sh day n + IntKind.wrap .i64 ((sAt sh n).alc * IntKind.wrap .i64 (day - (fOf c (sAt sh n).fill).day)))
noncomputable def mnS (c : CellarD) (id day : Int) : Int := mnN c (lotOf c id).sh day (lotOf c id).sh.length
noncomputable def meanR (c : CellarD) (id day : Int) : Int × Int × Int := if errY c id = 0 then (if isDayS day = true then (if day < (ygL c id).day then (0, 0, 5) else (IntKind.wrap .i64 ((mnS c id day).tdiv (lotOf c id).alc), (mnS c id day).tmod (lotOf c id).alc, 0)) else (0, 0, 2)) else (0, 0, errY c id)
theorem errY_inv {c id} (h : errY c id = 0) : errL c id = 0 ∧ ¬ (lotOf c id).sh.length = 0 := by
  by_cases h1 : errL c id = 0
  · by_cases h2 : (lotOf c id).sh.length = 0
    · rw [errY_9 h1 h2] at h; cases h
    · exact ⟨h1, h2⟩
  · rw [errY_l h1] at h; exact absurd h h1
end Go.Age
end
section
set_option linter.all false
set_option linter.unusedVariables false
set_option linter.unusedSimpArgs false
set_option maxRecDepth 100000
set_option maxHeartbeats 8000000
attribute [local irreducible] Go.Den.W Go.Den.WL Go.Den.WX Go.Den.WQ Go.Den.QR Go.Den.WG Go.Den.WO Go.Den.WK Go.Den.grows Go.Den.stepOp Go.Den.callV Go.Den.den
namespace Go.Age
open Go.Den Go.Proofs
def flI (l : List Int) : List CV := l.flatMap fun n => [i64 n]
def iAt (l : List Int) (i : Int) : Int := l.getD i.toNat 0
@[go_sem] theorem drop_flI (l : List Int) (i : Int) (h : 0 ≤ i ∧ i < l.length) : List.drop (i.toNat * 1) (flI l) = i64 (iAt l i) :: List.drop ((i.toNat + 1) * 1) (flI l) :=
  drop_at _ 1 (fun _ => rfl) 0 l i.toNat (by omega)
@[go_sem] theorem len_flI (l : List Int) : (flI l).length = l.length := by rw [flI, flat_len _ 1 (fun _ => rfl) l, Nat.one_mul]
theorem isV_flI : ∀ l : List Int, (flI l).all isV = true
  | [] => rfl
  | a :: l => by
    have := isV_flI l
    simp only [flI, List.flatMap_cons] at *
    simp [isV, this]
@[go_sem] theorem leaf_flI : ∀ l : List Int, (flI l).all CV.leaf = true
  | [] => rfl
  | a :: l => by
    have := leaf_flI l
    simp only [flI, List.flatMap_cons] at *
    simp [CV.leaf, valLeaf, this]
@[go_sem] theorem snap_flI8 (H : Hp) (l : List Int) : omap (snap H 8) (flI l) = some (flI l) := snap_isV H 7 (isV_flI l)
@[go_sem] theorem snap_flI7 (H : Hp) (l : List Int) : omap (snap H 7) (flI l) = some (flI l) := snap_isV H 6 (isV_flI l)
@[go_sem] theorem snap_flI6 (H : Hp) (l : List Int) : omap (snap H 6) (flI l) = some (flI l) := snap_isV H 5 (isV_flI l)
@[go_sem] theorem ids_flI8 (H : Hp) (l : List Int) : (flI l).flatMap (ids H 8) = [] := ids_isV H 8 (isV_flI l)
@[go_sem] theorem von_flI (l : List Int) : (flI l).all vOnly = true := von_isV (isV_flI l)
@[go_sem] theorem take_flI (l : List Int) : List.take l.length (flI l) = flI l := List.take_of_length_le (by rw [len_flI]; exact Nat.le_refl _)
theorem fl_app (l m : List Int) : flI (l ++ m) = flI l ++ flI m := by simp [flI]
theorem fl_one (n : Int) : flI [n] = [i64 n] := rfl
theorem f34 (d : Nat) (b b' : Bool) (l : List Int) (hs : l.length ≤ 1000) : ∃ H0, den E (d + 1) 17 [sl b (flI l) l.length, sl b' (flI l) l.length] [] = some (bl true, H0) := by
  refine den_ex Tryz.func17 rfl Tryz.ntmps17 (by simp) _ Tryz.results17 ?_
  repeat' (first | refine i_seq ?_ | refine k_seq ?_ | refine i_region ?_ | refine l_o ?_ | refine l_nil ?_ | (show RD _ _; refine e_do (by simp (disch := omega) only [go_sem, seval]; exact IsX.mk) ?_) | refine s_f ?_ | refine f_s ?_ | refine f_n ?_ | refine st2 ?_)
  refine i_loop (fun i : Int => upd (upd (upd (upd jk 13 (i64 i)) 12 (i64 l.length)) 1 (sl b' (flI l) l.length)) 0 (sl b (flI l) l.length)) (fun i : Int => [])
    (fun i => (l.length - i).toNat) (fun i => 0 ≤ i ∧ i ≤ l.length) 0 (by simp only [rounds]; omega) (by simp (disch := omega) only [go_sem, seval]) (by simp (disch := omega) only [go_sem, seval]) ⟨by omega, by omega⟩ ?_
  rintro i ⟨q1, q2⟩
  by_cases hi : i < l.length
  · repeat' (first | refine i_seq ?_ | refine k_seq ?_ | refine i_region ?_ | refine l_o ?_ | refine l_nil ?_ | (show RD _ _; refine e_do (by simp (disch := omega) only [go_sem, seval, wr64]; exact IsX.mk) ?_) | refine s_f ?_ | refine f_s ?_ | refine f_n ?_ | refine st2 ?_)
    exact k_loop (i + 1) (by omega) (by simp (disch := omega) only [go_sem, seval, wr64]) rfl ⟨by omega, by omega⟩
  · repeat' (first | refine i_seq ?_ | refine k_seq ?_ | refine i_region ?_ | refine l_o ?_ | refine l_nil ?_ | (show RD _ _; refine e_do (by simp (disch := omega) only [go_sem, seval]; exact IsX.mk) ?_) | refine s_f ?_ | refine f_s ?_ | refine f_n ?_ | refine st2 ?_)
    rfl
def ixI : List Int → Int → Int → Int
  | [], _, _ => -1
  | a :: l, x, i => if x = a then i else ixI l x (i + 1)
def NoI (l : List Int) (x : Int) (i : Int) : Prop := ∀ j : Int, 0 ≤ j → j < i → iAt l j ≠ x
theorem f70 (d : Nat) (a b : Int) : ∃ H0, den E (d + 2) 264 [i64 a, i64 b] [] = some (bl (decide (a < b)), H0) := by
  refine den_ex Tryz.func264 rfl Tryz.ntmps264 (by simp) _ Tryz.results264 ?_
  have k : ∀ (a : Int) (H : Hp), callV E (den E (d + 1)) 278 [i64 a] H = some (bl false, H) := fun a H => callV_plain rfl rfl rfl rfl (by
    refine den_ex Tryz.func278 rfl Tryz.ntmps278 (by simp) _ Tryz.results278 ?_
    repeat' (first | refine i_seq ?_ | refine k_seq ?_ | refine i_region ?_ | refine l_o ?_ | refine l_nil ?_ | (show RD _ _; refine e_do (by simp (disch := omega) only [go_sem, seval]; exact IsX.mk) ?_) | refine s_f ?_ | refine f_s ?_ | refine f_n ?_ | refine st2 ?_)
    simp) rfl
  by_cases h : a < b
  · repeat' (first | refine i_seq ?_ | refine k_seq ?_ | refine i_region ?_ | refine l_o ?_ | refine l_nil ?_ | (show RD _ _; refine e_do (by simp (disch := omega) only [go_sem, seval, k]; exact IsX.mk) ?_) | refine s_f ?_ | refine f_s ?_ | refine f_n ?_ | refine st2 ?_)
    simp [h]
  · repeat' (first | refine i_seq ?_ | refine k_seq ?_ | refine i_region ?_ | refine l_o ?_ | refine l_nil ?_ | (show RD _ _; refine e_do (by simp (disch := omega) only [go_sem, seval, k]; exact IsX.mk) ?_) | refine s_f ?_ | refine f_s ?_ | refine f_n ?_ | refine st2 ?_)
    simp [h]
@[go_sem] theorem c70 (d : Nat) (a b : Int) (H : Hp) : callV E (den E (d + 2)) 264 [i64 a, i64 b] H = some (bl (decide (a < b)), H) := callV_plain rfl rfl rfl rfl (f70 d a b) rfl
end Go.Age
end
section
set_option linter.all false
set_option linter.unusedVariables false
set_option linter.unusedSimpArgs false
set_option maxRecDepth 100000
set_option maxHeartbeats 8000000
namespace Go.Age
open Go.Den Go.Proofs
abbrev nilSl : CV := .v (.slice none 0 0)
abbrev stepC (f : FillD) : List CV := [i64 1, i64 1, i64 0, i64 1, i64 1, i64 1, i64 f.id, i64 f.cls, i64 f.day, strC f.org, sl f.nilA (f.al.map strC) f.al.length]
theorem k61 (d : Nat) (r0 r1 r2 r3 : Row) : den E (d + 7) 187 [.agg [nilSl, nilSl, nilSl, i64 0]] [.row r0, .row r1, .row r2, .row r3] =
    some (.op 5 0, [.row r0, .row r1, .row r2, .row r3, .row ⟨[nilSl, nilSl, nilSl, i64 0], 25, 4, true⟩, .row ⟨[nilSl, nilSl, nilSl, i64 0, i64 0], 202, 5, true⟩]) := by
  kernel_rfl
theorem k83 (d : Nat) (id : Int) (r0 r1 r2 r3 r4 r6 r7 r8 : Row) : den E (d + 9) 213 [.op 5 0, i64 1, .agg [i64 0, i64 1, i64 1, .own 9 0 1 2]]
      [.row r0, .row r1, .row r2, .row r3, .row r4, .row ⟨[nilSl, nilSl, nilSl, i64 0, i64 0], 202, 5, true⟩, .row r6, .row r7, .row r8, .row ⟨[i64 id, i64 1], 66, 2, true⟩] =
    some (.tup [], [.row r0, .row r1, .row r2, .row r3, .row r4, .row ⟨[nilSl, .own 14 0 1 4, nilSl, i64 0, i64 0], 202, 5, true⟩, .row r6, .row r7, .row r8, .row ⟨[i64 id, i64 1], 66, 2, false⟩,
      .row ⟨[i64 1, i64 1, i64 1, .own 9 0 1 2], 53, 4, true⟩, .row ⟨[i64 0, i64 0, i64 0, nilSl], 53, 4, true⟩, .row ⟨[i64 1, i64 1, i64 1, .own 9 0 1 2], 53, 4, true⟩, .row ⟨[i64 1, i64 1, i64 1, .own 9 0 1 2], 53, 4, false⟩, .row ⟨[i64 1, i64 1, i64 1, .ro [i64 id, i64 1] 1], 53, 4, true⟩]) := by
  kernel_rfl
end Go.Age
end
