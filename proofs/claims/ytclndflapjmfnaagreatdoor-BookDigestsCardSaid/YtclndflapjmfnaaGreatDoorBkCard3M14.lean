/- Part of the proof of BookDigestsCardSaid. -/
import Derived.Test.YtclndflapjmfnaaGreatDoorBkCard3M12
import Derived.Test.YtclndflapjmfnaaGreatDoorProg
import Derived.KernelRfl
import Derived.Laws.BitsAllLaws
section
set_option linter.all false
set_option linter.unusedVariables false
set_option linter.unusedSimpArgs false
namespace Go.Den
def IsS (r : Option (CV × Hp)) (c : CV) (H : Hp) : Prop := r = some (c, H)
theorem IsS.mk {c : CV} {H : Hp} : IsS (some (c, H)) c H := rfl
@[congr] theorem IsS_congr {r r' : Option (CV × Hp)} {c : CV} {H : Hp} {xx : Prop} (h : r = r') (hd : (True ∧ True) = xx) : IsS r c H = IsS r' c H := by rw [h]
def IsV (r : Option CV) (c : CV) : Prop := r = some c
theorem IsV.mk {c : CV} : IsV (some c) c := rfl
@[congr] theorem IsV_congr {r r' : Option CV} {c : CV} {xx : Prop} (h : r = r') (hd : (True ∧ True) = xx) : IsV r c = IsV r' c := by rw [h]
def IsC (r : CV) (c : CV) : Prop := r = c
theorem IsC.mk {c : CV} : IsC c c := rfl
@[congr] theorem IsC_congr {r r' : CV} {c : CV} {xx : Prop} (h : r = r') (hd : (True ∧ True) = xx) : IsC r c = IsC r' c := by rw [h]

section
variable {E : Env} {call : FuncId → List CV → Hp → Option (CV × Hp)} {f : FuncId} {n : Nat} {σ : Nat → CV} {H H' : Hp} {Q : Ex → (Nat → CV) → Hp → Prop}
variable {ops : Array Oper} {dr : Bool} {K : (Nat → CV) → Hp → Prop} {l : List Oper} {t t0 g : Nat} {want : Bool} {op : Op} {ty : TypeId} {p : String} {a : Array Edge} {c : CV}

def kSeq (E : Env) (call : FuncId → List CV → Hp → Option (CV × Hp)) (f : FuncId) (n : Nat) (b : Code) (Q : Ex → (Nat → CV) → Hp → Prop) (ex : Ex) (σ : Nat → CV) (H : Hp) : Prop := WN ex (W E call f n b σ H Q) (Q ex σ H)
def kBlk (id : Nat) (Q : Ex → (Nat → CV) → Hp → Prop) (ex : Ex) (σ : Nat → CV) (H : Hp) : Prop := WE ex id (Q .normal σ H) (Q ex σ H)

theorem i_skip (h : Q .normal σ H) : W E call f n .skip σ H Q := h
theorem i_label {l} (h : Q .normal σ H) : W E call f n (.label l) σ H Q := h
theorem i_exit {id} (h : Q (.exit id) σ H) : W E call f n (.exit id) σ H Q := h
theorem i_ret (h : Q .ret σ H) : W E call f n .ret σ H Q := h
theorem i_region {id} (h : WL E call n (List.toArray l) false l σ H (Q .normal)) : W E call f n (.region id (List.toArray l) false) σ H Q := by rw [W_region]; exact h
theorem i_draw {id} (h0 : still E (List.toArray l) = true) (h : WL E call n (List.toArray l) true l σ H (Q .normal)) : W E call f n (.region id (List.toArray l) true) σ H Q := W_draw _ _ ⟨h0, h⟩
theorem i_drawq {id} (L : List Rq) (h0 : (drawS (List.toArray l) && (dynL E (List.toArray l) (pairs E (List.toArray l)) == some L)) = true) (h : WL E call n (List.toArray l) true l σ H (kD E n L (Q .normal))) : W E call f n (.region id (List.toArray l) true) σ H Q := by
  simp only [Bool.and_eq_true, beq_iff_eq] at h0
  simp only [W]; exact .inr (.inl ⟨L, h0.1, h0.2, h⟩)
theorem i_drawd {id} (L : List (Nat × Nat)) (h0 : (drawS (List.toArray l) && (dynL E (List.toArray l) (pairs E (List.toArray l)) == some (L.map fun p => Rq.ap p.1 p.2))) = true) (h : WL E call n (List.toArray l) true l σ H (kD E n (L.map fun p => Rq.ap p.1 p.2) (Q .normal))) : W E call f n (.region id (List.toArray l) true) σ H Q := i_drawq _ h0 h
theorem apart2_op (i o j q) : apart2 (.op i o) (.op j q) = (i ≠ j) := rfl
theorem rfV_fn (g cs) : rfV E (.fn g cs) = (isRf E g = true) := rfl
theorem apL_nil (σ) : apL E [] σ = True := by simp [apL]
theorem apL_ap (a b L σ) : apL E (.ap a b :: L) σ = (apart2 (σ a) (σ b) ∧ apL E L σ) := by simp [apL, rqH]
theorem apL_rf (t L σ) : apL E (.rf t :: L) σ = (rfV E (σ t) ∧ apL E L σ) := by simp [apL, rqH]
attribute [go_sem] apart2_op rfV_fn apL_nil apL_ap apL_rf
theorem k_d {n L} {K : (Nat → CV) → Hp → Prop} {σ H} (h : apL E L σ) (hn : (L.all (rqN n)) = true) (hk : K σ H) : kD E n L K σ H := ⟨⟨h, by simpa using hn⟩, hk⟩
theorem i_seq {x b : Code} (h : W E call f n x σ H (kSeq E call f n b Q)) : W E call f n (.seq x b) σ H Q := h
theorem i_block {id} {b : Code} (h : W E call f n b σ H (kBlk id Q)) : W E call f n (.block id b) σ H Q := h
theorem k_seq {b : Code} (h : W E call f n b σ H Q) : kSeq E call f n b Q .normal σ H := h
theorem k_seqr {b : Code} (h : Q .ret σ H) : kSeq E call f n b Q .ret σ H := h
theorem k_seqe {b : Code} {i} (h : Q (.exit i) σ H) : kSeq E call f n b Q (.exit i) σ H := h
theorem k_blk {id} (h : Q .normal σ H) : kBlk id Q .normal σ H := h
theorem k_blkr {id} (h : Q .ret σ H) : kBlk id Q .ret σ H := h
theorem k_blke {id} (h : Q .normal σ H) : kBlk id Q (.exit id) σ H := by simp only [kBlk, WE, if_true]; exact h
theorem k_blkn {i id} (hn : (i == id) = false) (h : Q (.exit i) σ H) : kBlk id Q (.exit i) σ H := by simp only [kBlk, WE]; rw [if_neg (by simpa using hn)]; exact h
def WQ (E : Env) (call : FuncId → List CV → Hp → Option (CV × Hp)) (f : FuncId) (n : Nat) (t : Nat) (x y : Code) (σ : Nat → CV) (H : Hp) (Q : Ex → (Nat → CV) → Hp → Prop) : CV → Prop
  | .v (.bool b) => WB b σ t fun b' σ' => match b' with
    | true => W E call f n x σ' H Q
    | false => W E call f n y σ' H Q
  | _ => False
theorem i_cond {t : Nat} {x y : Code} (ht : Nat.ble n t = false) (hs : IsC (σ t) c) (h : WQ E call f n t x y σ H Q c) : W E call f n (.cond (.tmp t) x y) σ H Q := by
  rw [W_cond, ev_tmp, if_pos (ble_lt ht), show σ t = _ from hs]
  unfold WQ at h
  split at h
  · rw [WC_some]; exact h
  · cases h
theorem q_true {x y : Code} (h : W E call f n x σ H Q) : WQ E call f n t x y σ H Q (.v (.bool true)) := by simp only [WQ, WB_true]; exact h
theorem q_false {x y : Code} (h : W E call f n y σ H Q) : WQ E call f n t x y σ H Q (.v (.bool false)) := by simp only [WQ, WB_false]; exact h
theorem q_split {x y : Code} {b : Bool} (hs : IsC (σ t) (.v (.bool b))) (h1 : b = true → W E call f n x (upd σ t (.v (.bool true))) H Q) (h2 : b = false → W E call f n y (upd σ t (.v (.bool false))) H Q) : WQ E call f n t x y σ H Q (.v (.bool b)) := by
  simp only [WQ]; exact WB.intro hs h1 h2

theorem l_nil (h : K σ H) : WL E call n ops dr [] σ H K := h
theorem l_op (h : IsS (stepOp E call ⟨some t, op, ty, p, a, none⟩ (mk n σ) H) c H') (hg : grows dr H H') (hk : WL E call n ops dr l (upd σ t c) H' K) : WL E call n ops dr (⟨some t, op, ty, p, a, none⟩ :: l) σ H K := by
  rw [WL_cons, WG_none, WO_eq, show stepOp _ _ _ _ _ = _ from h, WK_some]; exact ⟨hg, hk⟩
theorem l_opn (h : IsS (stepOp E call ⟨none, op, ty, p, a, none⟩ (mk n σ) H) c H') (hg : grows dr H H') (hk : WL E call n ops dr l σ H' K) : WL E call n ops dr (⟨none, op, ty, p, a, none⟩ :: l) σ H K := by
  rw [WL_cons, WG_none, WO_eq', show stepOp _ _ _ _ _ = _ from h, WK_some]; exact ⟨hg, hk⟩
theorem l_gd {d : Option Tmp} (h0 : gdst ops g = some t0) (h1 : Nat.ble n t0 = false) (hs : IsC (σ t0) c) (hk : WX E call n dr ⟨d, op, ty, p, a, some (g, want)⟩ σ H (fun σ' H' => WL E call n ops dr l σ' H' K) want t0 c) : WL E call n ops dr (⟨d, op, ty, p, a, some (g, want)⟩ :: l) σ H K := by
  rw [WL_cons, WG_some h0 (ble_lt h1), show σ t0 = _ from hs]; exact hk
theorem x_y {b : Bool} {K' : (Nat → CV) → Hp → Prop} {gg} (hb : (b == want) = true) (h : IsS (stepOp E call ⟨some t, op, ty, p, a, gg⟩ (mk n σ) H) c H') (hg : grows dr H H') (hk : K' (upd σ t c) H') : WX E call n dr ⟨some t, op, ty, p, a, gg⟩ σ H K' want t0 (.v (.bool b)) := by
  rw [WX_bool]
  cases b
  · rw [WB_false]; simp only [hb]; rw [show stepOp _ _ _ _ _ = _ from h, WK_some]; exact ⟨hg, hk⟩
  · rw [WB_true]; simp only [hb]; rw [show stepOp _ _ _ _ _ = _ from h, WK_some]; exact ⟨hg, hk⟩
theorem x_yn {b : Bool} {K' : (Nat → CV) → Hp → Prop} {gg} (hb : (b == want) = true) (h : IsS (stepOp E call ⟨none, op, ty, p, a, gg⟩ (mk n σ) H) c H') (hg : grows dr H H') (hk : K' σ H') : WX E call n dr ⟨none, op, ty, p, a, gg⟩ σ H K' want t0 (.v (.bool b)) := by
  rw [WX_bool']
  cases b
  · rw [WB_false]; simp only [hb]; rw [show stepOp _ _ _ _ _ = _ from h, WK_some]; exact ⟨hg, hk⟩
  · rw [WB_true]; simp only [hb]; rw [show stepOp _ _ _ _ _ = _ from h, WK_some]; exact ⟨hg, hk⟩
theorem x_n {b : Bool} {K' : (Nat → CV) → Hp → Prop} {gg} (hb : (b == want) = false) (hk : K' (upd σ t (.v undef)) H) : WX E call n dr ⟨some t, op, ty, p, a, gg⟩ σ H K' want t0 (.v (.bool b)) := by
  rw [WX_bool]
  cases b
  · rw [WB_false]; simp only [hb]; exact hk
  · rw [WB_true]; simp only [hb]; exact hk
theorem x_nn {b : Bool} {K' : (Nat → CV) → Hp → Prop} {gg} (hb : (b == want) = false) (hk : K' σ H) : WX E call n dr ⟨none, op, ty, p, a, gg⟩ σ H K' want t0 (.v (.bool b)) := by
  rw [WX_bool']
  cases b
  · rw [WB_false]; simp only [hb]; exact hk
  · rw [WB_true]; simp only [hb]; exact hk
theorem x_u {K' : (Nat → CV) → Hp → Prop} {gg} (hk : K' (upd σ t (.v undef)) H) : WX E call n dr ⟨some t, op, ty, p, a, gg⟩ σ H K' want t0 (.v undef) := hk
theorem x_un {K' : (Nat → CV) → Hp → Prop} {gg} (hk : K' σ H) : WX E call n dr ⟨none, op, ty, p, a, gg⟩ σ H K' want t0 (.v undef) := hk
def RD {α : Type} (r : α) (K : α → Prop) : Prop := K r
def IsX {α : Type} (r a : α) : Prop := r = a
theorem IsX.mk {α : Type} {a : α} : IsX a a := rfl
@[congr] theorem IsX_congr {α : Type} {r r' a : α} {xx : Prop} (h : r = r') (hd : (True ∧ True) = xx) : IsX r a = IsX r' a := by rw [h]
theorem e_do {α : Type} {r r' : α} {K : α → Prop} (h : IsX r r') (hk : K r') : RD r K := by
  have h : r = r' := h
  subst h; exact hk
def WF (d : Option Nat) (σ : Nat → CV) (c : CV) (H : Hp) (K : (Nat → CV) → Hp → Prop) : Prop := match d with
  | some t => K (upd σ t c) H
  | none => K σ H
def KD (dr : Bool) (H : Hp) (K : CV → Hp → Prop) (r : Option (CV × Hp)) : Prop := ∃ c H', r = some (c, H') ∧ grows dr H H' ∧ K c H'
theorem s_f {K : CV → Hp → Prop} (h : K c H') : KD false H K (some (c, H')) := ⟨c, H', rfl, (fun e => by cases e), h⟩
theorem s_t {K : CV → Hp → Prop} (hg : grows true H H') (h : K c H') : KD true H K (some (c, H')) := ⟨c, H', rfl, hg, h⟩
theorem f_s (h : K (upd σ t c) H) : WF (some t) σ c H K := h
theorem f_n (h : K σ H) : WF none σ c H K := h
theorem l_o {d : Option Nat} (h : RD (stepOp E call ⟨d, op, ty, p, a, none⟩ (mk n σ) H) (KD dr H (fun c H' => WF d σ c H' (fun σ' H' => WL E call n ops dr l σ' H' K)))) : WL E call n ops dr (⟨d, op, ty, p, a, none⟩ :: l) σ H K := by
  obtain ⟨c, H', h1, h2, h3⟩ := h
  cases d
  · exact l_opn h1 h2 h3
  · exact l_op h1 h2 h3
theorem x_o {d : Option Nat} {b : Bool} {K' : (Nat → CV) → Hp → Prop} {gg} (hb : (b == want) = true) (h : RD (stepOp E call ⟨d, op, ty, p, a, gg⟩ (mk n σ) H) (KD dr H (fun c H' => WF d σ c H' K'))) : WX E call n dr ⟨d, op, ty, p, a, gg⟩ σ H K' want t0 (.v (.bool b)) := by
  obtain ⟨c, H', h1, h2, h3⟩ := h
  cases d
  · exact x_yn hb h1 h2 h3
  · exact x_y hb h1 h2 h3
theorem i_draww {id} (L : List (Option Cl)) (h0 : (drawS (List.toArray l) && (pairs E (List.toArray l)).all fun p => okW E (List.toArray l) L p) = true) (h : WLw E call n (List.toArray l) L l σ H (Q .normal)) : W E call f n (.region id (List.toArray l) true) σ H Q := by
  simp only [Bool.and_eq_true] at h0
  simp only [W]; exact .inr (.inr ⟨L, h0.1, h0.2, h⟩)
theorem l_nilw {L : List (Option Cl)} (h : K σ H) : WLw E call n ops L [] σ H K := by simp only [WLw]; exact h
theorem l_ow {d : Option Nat} {L : List (Option Cl)} (h : RD (stepOp E call ⟨d, op, ty, p, a, none⟩ (mk n σ) H) (KD true H (fun c H' => WF d σ c H' (fun σ' H' => WLw E call n ops L l σ' H' K)))) : WLw E call n ops (none :: L) (⟨d, op, ty, p, a, none⟩ :: l) σ H K := by
  obtain ⟨c, H', h1, h2, h3⟩ := h
  simp only [WLw, WG_none]
  cases d
  · rw [WO_eq', h1, WK_some]; exact ⟨h2, h3⟩
  · rw [WO_eq, h1, WK_some]; exact ⟨h2, h3⟩
theorem l_oe {d : Option Nat} (h : RD (stepOp E call ⟨d, op, ty, p, a, none⟩ (mk n σ) H) (KD true H (fun c H' => WF d σ c H' (fun σ' H' => WLw E call n ops [] l σ' H' K)))) : WLw E call n ops [] (⟨d, op, ty, p, a, none⟩ :: l) σ H K := by
  obtain ⟨c, H', h1, h2, h3⟩ := h
  simp only [WLw, WG_none]
  cases d
  · rw [WO_eq', h1, WK_some]; exact ⟨h2, h3⟩
  · rw [WO_eq, h1, WK_some]; exact ⟨h2, h3⟩
theorem l_oc {d : Option Nat} {L : List (Option Cl)} {cl : Cl} (hc : clOf E ⟨d, op, ty, p, a, none⟩ (mk n σ) H = cl) (h : RD (stepOp E call ⟨d, op, ty, p, a, none⟩ (mk n σ) H) (KD true H (fun c H' => WF d σ c H' (fun σ' H' => WLw E call n ops L l σ' H' K)))) : WLw E call n ops (some cl :: L) (⟨d, op, ty, p, a, none⟩ :: l) σ H K := by
  simp only [WLw]
  refine ⟨hc, ?_⟩
  obtain ⟨c, H', h1, h2, h3⟩ := h
  rw [WG_none]
  cases d
  · rw [WO_eq', h1, WK_some]; exact ⟨h2, h3⟩
  · rw [WO_eq, h1, WK_some]; exact ⟨h2, h3⟩
def WQ2 (E : Env) (call : FuncId → List CV → Hp → Option (CV × Hp)) (f : FuncId) (n : Nat) (t : Nat) (x y : Code) (σ : Nat → CV) (H : Hp) (Q : Ex → (Nat → CV) → Hp → Prop) (c : CV) : Prop := σ t = c → WQ E call f n t x y σ H Q c
theorem i_cnd {t : Nat} {x y : Code} (ht : Nat.ble n t = false) (h : RD (σ t) (WQ2 E call f n t x y σ H Q)) : W E call f n (.cond (.tmp t) x y) σ H Q := i_cond ht IsC.mk (h rfl)
theorem q2_true {x y : Code} (h : W E call f n x σ H Q) : WQ2 E call f n t x y σ H Q (.v (.bool true)) := fun _ => q_true h
theorem q2_false {x y : Code} (h : W E call f n y σ H Q) : WQ2 E call f n t x y σ H Q (.v (.bool false)) := fun _ => q_false h
theorem q2_split {x y : Code} {b : Bool} (h1 : b = true → W E call f n x (upd σ t (.v (.bool true))) H Q) (h2 : b = false → W E call f n y (upd σ t (.v (.bool false))) H Q) : WQ2 E call f n t x y σ H Q (.v (.bool b)) := fun hs => q_split hs h1 h2
def WX2 (E : Env) (call : FuncId → List CV → Hp → Option (CV × Hp)) (n : Nat) (dr : Bool) (o : Oper) (σ : Nat → CV) (H : Hp) (K : (Nat → CV) → Hp → Prop) (want : Bool) (t : Nat) (c : CV) : Prop := σ t = c → WX E call n dr o σ H K want t c
theorem l_g {d : Option Tmp} (h0 : gdst ops g = some t0) (h1 : Nat.ble n t0 = false) (h : RD (σ t0) (WX2 E call n dr ⟨d, op, ty, p, a, some (g, want)⟩ σ H (fun σ' H' => WL E call n ops dr l σ' H' K) want t0)) : WL E call n ops dr (⟨d, op, ty, p, a, some (g, want)⟩ :: l) σ H K := l_gd h0 h1 IsC.mk (h rfl)
theorem x2_o {d : Option Nat} {b : Bool} {K' : (Nat → CV) → Hp → Prop} {gg} (hb : (b == want) = true) (h : RD (stepOp E call ⟨d, op, ty, p, a, gg⟩ (mk n σ) H) (KD dr H (fun c H' => WF d σ c H' K'))) : WX2 E call n dr ⟨d, op, ty, p, a, gg⟩ σ H K' want t0 (.v (.bool b)) := fun _ => x_o hb h
theorem x2_n {d : Option Nat} {b : Bool} {K' : (Nat → CV) → Hp → Prop} {gg} (hb : (b == want) = false) (hk : WF d σ (.v undef) H K') : WX2 E call n dr ⟨d, op, ty, p, a, gg⟩ σ H K' want t0 (.v (.bool b)) := fun _ => by
  cases d
  · exact x_nn hb hk
  · exact x_n hb hk
theorem x2_u {d : Option Nat} {K' : (Nat → CV) → Hp → Prop} {gg} (hk : WF d σ (.v undef) H K') : WX2 E call n dr ⟨d, op, ty, p, a, gg⟩ σ H K' want t0 (.v undef) := fun _ => by
  cases d
  · exact x_un hk
  · exact x_u hk
def kRes (P : CV → Hp → Prop) (H : Hp) (r : Option (List CV)) : Prop := match r with
  | some [c] => P c H
  | some vs => P (.tup vs) H
  | none => False
@[congr] theorem kRes_congr {P : CV → Hp → Prop} {r r' : Option (List CV)} {xx : Prop} (h : r = r') (hd : (True ∧ True) = xx) : kRes P H r = kRes P H r' := by rw [h]
theorem r_ret {rs : Array ResultVar} {P : CV → Hp → Prop} (h : kRes P H (omap (resultC E ⟨mk n σ, H⟩) rs.toList)) : QR E n rs P .ret σ H := h
theorem r_normal {rs : Array ResultVar} {P : CV → Hp → Prop} (h : kRes P H (omap (resultC E ⟨mk n σ, H⟩) rs.toList)) : QR E n rs P .normal σ H := h
def resO (r : Option (List CV)) (H : Hp) : Option (CV × Hp) := match r with
  | some [c] => some (c, H)
  | some vs => some (.tup vs, H)
  | none => none
@[go_sem] theorem resO_nil : resO (some []) H = some (.tup [], H) := rfl
@[go_sem] theorem resO_one : resO (some [c]) H = some (c, H) := rfl
@[go_sem] theorem resO_two {c c' : CV} {l : List CV} : resO (some (c :: c' :: l)) H = some (.tup (c :: c' :: l), H) := rfl
theorem resO_k {P : CV → Hp → Prop} {r : Option (List CV)} (h : RD (resO r H) (KD false H P)) : kRes P H r := by
  obtain ⟨c, H', h1, _, h3⟩ := h
  have h1 : resO r H = some (c, H') := h1
  match r, h1 with
  | some [], h1 => cases h1; exact h3
  | some [x], h1 => cases h1; exact h3
  | some (x :: y :: l), h1 => cases h1; exact h3
theorem r_rt {rs : Array ResultVar} {P : CV → Hp → Prop} (h : RD (resO (omap (resultC E ⟨mk n σ, H⟩) rs.toList) H) (KD false H P)) : QR E n rs P .ret σ H := r_ret (resO_k h)
theorem r_nm {rs : Array ResultVar} {P : CV → Hp → Prop} (h : RD (resO (omap (resultC E ⟨mk n σ, H⟩) rs.toList) H) (KD false H P)) : QR E n rs P .normal σ H := r_normal (resO_k h)
def kLoop (E : Env) (f : FuncId) (b : Code) {α : Type} (I : α → Nat → CV) (J : α → Hp) (m : α → Nat) (ok : α → Prop) (a : α) (Q : Ex → (Nat → CV) → Hp → Prop) (ex : Ex) (σ : Nat → CV) (H : Hp) : Prop :=
  WN ex (∃ a', m a' < m a ∧ nmS E f b σ = I a' ∧ H = J a' ∧ ok a') (Q ex σ H)
theorem i_loop {b : Code} {α : Type} (I : α → Nat → CV) (J : α → Hp) (m : α → Nat) (ok : α → Prop) (a0 : α) (hr : m a0 < rounds) (h0 : nmS E f b σ = I a0) (h1 : H = J a0) (h2 : ok a0)
    (hI : ∀ a, ok a → W E call f n b (I a) (J a) (kLoop E f b I J m ok a Q)) : W E call f n (.loop b) σ H Q := W_loop I J m ok a0 hr h0 h1 h2 hI
theorem k_loop {b : Code} {α : Type} {I : α → Nat → CV} {J : α → Hp} {m : α → Nat} {ok : α → Prop} {a : α} (a' : α) (h1 : m a' < m a) (h2 : nmS E f b σ = I a') (h3 : H = J a') (h4 : ok a') : kLoop E f b I J m ok a Q .normal σ H := ⟨a', h1, h2, h3, h4⟩
theorem k_loope {b : Code} {α : Type} {I : α → Nat → CV} {J : α → Hp} {m : α → Nat} {ok : α → Prop} {a : α} {i} (h : Q (.exit i) σ H) : kLoop E f b I J m ok a Q (.exit i) σ H := h
theorem k_loopr {b : Code} {α : Type} {I : α → Nat → CV} {J : α → Hp} {m : α → Nat} {ok : α → Prop} {a : α} (h : Q .ret σ H) : kLoop E f b I J m ok a Q .ret σ H := h
end
section
variable {E : Env} {H : Hp}
@[go_sem] theorem release_eq (r : CV) : release H r = if nodupB (tops (flatR r)) = true ∧ ((tops (flatR r)).all fun t => !(nests H (flatR r)).contains t) = true then rel H r else none := rfl
@[go_sem] theorem flat_agg (cs) : flatR (.agg cs) = cs := rfl
@[go_sem] theorem flat_v (x) : flatR (.v x) = [.v x] := rfl
@[go_sem] theorem flat_own (a b c d) : flatR (.own a b c d) = [.own a b c d] := rfl
@[go_sem] theorem flat_ro (a b) : flatR (.ro a b) = [.ro a b] := rfl
@[go_sem] theorem flat_tup (vs) : flatR (.tup vs) = vs.flatMap CV.cells := rfl
@[go_sem] theorem fm_nil {α β : Type} (g : α → List β) : [].flatMap g = [] := rfl
@[go_sem] theorem fm_cons {α β : Type} (g : α → List β) (a : α) (l : List α) : (a :: l).flatMap g = g a ++ l.flatMap g := rfl
@[go_sem] theorem tops_nil : tops [] = [] := rfl
@[go_sem] theorem tops_cv (x l) : tops (.v x :: l) = tops l := rfl
@[go_sem] theorem tops_cro (x y l) : tops (.ro x y :: l) = tops l := rfl
@[go_sem] theorem tops_ccut (a b c d l) : tops (.cut a b c d :: l) = tops l := rfl
@[go_sem] theorem tops_cown (a b c d l) : tops (.own a b c d :: l) = a :: tops l := rfl
@[go_sem] theorem tops_csl (b cs n l) : tops (sl b cs n :: l) = tops l := by rcases sl_cases b cs n with ⟨h, _, rfl⟩ | h <;> rw [h] <;> rfl
@[go_sem] theorem nests_nil : nests H [] = [] := rfl
@[go_sem] theorem nests_cv (x l) : nests H (.v x :: l) = nests H l := rfl
@[go_sem] theorem nests_cro (x y l) : nests H (.ro x y :: l) = nests H l := rfl
@[go_sem] theorem nests_ccut (a b c d l) : nests H (.cut a b c d :: l) = nests H l := rfl
@[go_sem] theorem nests_csl (b cs n l) : nests H (sl b cs n :: l) = nests H l := by rcases sl_cases b cs n with ⟨h, _, rfl⟩ | h <;> rw [h] <;> rfl
@[go_sem] theorem nests_cown (a b c d l) : nests H (.own a b c d :: l) = (match getR H a with | some r => r.cells.flatMap (ids H depth) | none => []) ++ nests H l := rfl
@[go_sem] theorem nodup_nil : nodupB [] = true := rfl
@[go_sem] theorem nodup_cons (a l) : nodupB (a :: l) = (!l.contains a && nodupB l) := rfl
@[go_sem] theorem cont_nil (a : Nat) : List.contains [] a = false := rfl
@[go_sem] theorem rel_agg (cs) : rel H (.agg cs) = (omap (rel1 H) cs).map .agg := rfl
@[go_sem] theorem rel_tup (vs) : rel H (.tup vs) = (omap (relV H) vs).map .tup := rfl
@[go_sem] theorem rel_v (x) : rel H (.v x) = some (.v x) := rfl
@[go_sem] theorem rel_own (a b c d) : rel H (.own a b c d) = rel1 H (.own a b c d) := rfl
@[go_sem] theorem relV_agg (cs) : relV H (.agg cs) = (omap (rel1 H) cs).map .agg := rfl
@[go_sem] theorem relV_v (x) : relV H (.v x) = some (.v x) := rfl
@[go_sem] theorem relV_own (a b c d) : relV H (.own a b c d) = rel1 H (.own a b c d) := rfl
@[go_sem] theorem rel1_cv (x) : rel1 H (.v x) = some (.v x) := rfl
@[go_sem] theorem rel1_ro (cs n) : rel1 H (.ro cs n) = some (.ro cs n) := rfl
@[go_sem] theorem rel1_sl (b cs n) : rel1 H (sl b cs n) = some (sl b cs n) := rel_sl b cs n
@[go_sem] theorem rel1_own (id off n sz) : rel1 H (.own id off n sz) = (match getR H id with
    | some r => if r.live = true ∧ off = 0 ∧ n * sz = r.cells.length ∧ 0 < sz then (omap (snap H depth) r.cells).map (fun cs => .fr cs n r.e sz) else none
    | none => none) := rfl
@[go_sem] theorem fresh_eq (r) : freshRes r = (flatR r).all freshLeaf := rfl
@[go_sem] theorem fl_v (x) : freshLeaf (.v x) = true := rfl
@[go_sem] theorem fl_fr (cs n e sz) : freshLeaf (.fr cs n e sz) = cs.all vOnly := rfl
@[go_sem] theorem flat_fr (a b c d) : flatR (.fr a b c d) = [.fr a b c d] := rfl
@[go_sem] theorem cells_fr (a b c d) : CV.cells (.fr a b c d) = [.fr a b c d] := rfl
@[go_sem] theorem inst_tup (vs) : install H (.tup vs) = (.tup (instL2 H vs).1, (instL2 H vs).2) := rfl
@[go_sem] theorem inst_agg (cs) : install H (.agg cs) = (.agg (instL H cs).1, (instL H cs).2) := rfl
@[go_sem] theorem inst_v (x) : install H (.v x) = (.v x, H) := rfl
@[go_sem] theorem inst_fr (cs n e sz) : install H (.fr cs n e sz) = (.own H.length 0 n sz, H ++ [.row ⟨cs, e, sz, true⟩]) := rfl
@[go_sem] theorem instL2_nil : instL2 H [] = ([], H) := rfl
@[go_sem] theorem instL2_cons (c cs) : instL2 H (c :: cs) = ((inst2 H c).1 :: (instL2 (inst2 H c).2 cs).1, (instL2 (inst2 H c).2 cs).2) := rfl
@[go_sem] theorem instL_nil : instL H [] = ([], H) := rfl
@[go_sem] theorem instL_cons (c cs) : instL H (c :: cs) = ((inst1 H c).1 :: (instL (inst1 H c).2 cs).1, (instL (inst1 H c).2 cs).2) := rfl
@[go_sem] theorem inst2_agg (cs) : inst2 H (.agg cs) = (.agg (instL H cs).1, (instL H cs).2) := rfl
@[go_sem] theorem inst2_v (x) : inst2 H (.v x) = (.v x, H) := rfl
@[go_sem] theorem inst2_fr (cs n e sz) : inst2 H (.fr cs n e sz) = (.own H.length 0 n sz, H ++ [.row ⟨cs, e, sz, true⟩]) := rfl
@[go_sem] theorem inst2_ro (a b) : inst2 H (.ro a b) = (.ro a b, H) := rfl
@[go_sem] theorem inst1_v (x) : inst1 H (.v x) = (.v x, H) := rfl
@[go_sem] theorem inst1_fr (cs n e sz) : inst1 H (.fr cs n e sz) = (.own H.length 0 n sz, H ++ [.row ⟨cs, e, sz, true⟩]) := rfl
@[go_sem] theorem inst1_ro (a b) : inst1 H (.ro a b) = (.ro a b, H) := rfl
@[go_sem] theorem inst1_sl (b cs n) : inst1 H (sl b cs n) = (sl b cs n, H) := by rcases sl_cases b cs n with ⟨h, _, rfl⟩ | h <;> rw [h] <;> rfl
@[go_sem] theorem sn_cut (k a b sz) : snap H (k + 1) (.cut a b 0 sz) = some (.cut 0 0 0 sz) := rfl
@[go_sem] theorem sn_own (k id off n sz) : snap H (k + 1) (.own id off n sz) = (match getR H id with
      | some r => if off + n * sz ≤ r.cells.length then (omap (snap H k) ((r.cells.drop off).take (n * sz))).map (fun cs => .ro cs n) else none
      | none => none) := rfl
@[go_sem] theorem depth_eq : depth = 8 := rfl
def apG (c : Prop) [Decidable c] (lv : Bool) (c2 : Prop) [Decidable c2] (m : Nat) (a b : CV × Hp) : Option (CV × Hp) := if c then if m = 0 then some a else if lv = true ∧ c2 then some b else none else none
@[go_sem] theorem apG_zero (c : Prop) [Decidable c] (lv c2) [Decidable c2] (a b) (h : c) : apG c lv c2 0 a b = some a := by simp [apG, h]
@[go_sem] theorem apG_zero' {inst : Decidable True} (lv c2) [Decidable c2] (a b) : @apG True inst lv c2 _ 0 a b = some a := by simp [apG]
@[go_sem] theorem apG_pos (c : Prop) [Decidable c] (c2 : Prop) [Decidable c2] (m a b) (h : (c ∧ c2) ∧ ¬ m = 0) : apG c true c2 m a b = some b := by simp [apG, h]
@[go_sem] theorem apG_pos' {inst : Decidable True} (c2 : Prop) [Decidable c2] (m a b) (h : c2 ∧ ¬ m = 0) : @apG True inst true c2 _ m a b = some b := by simp [apG, h]
@[go_sem] theorem apG_posT {inst : Decidable True} (c : Prop) [Decidable c] (m a b) (h : c ∧ ¬ m = 0) : @apG c _ true True inst m a b = some b := by simp [apG, h]
@[go_sem] theorem apG_posTT {inst inst' : Decidable True} (m a b) (h : ¬ m = 0) : @apG True inst true True inst' m a b = some b := by simp [apG, h]
def apH (q p : Nat) (lv : Bool) (c2 : Prop) [Decidable c2] (m : Nat) (a b b' : CV × Hp) : Option (CV × Hp) := if q = p then apG True lv c2 m a b else if q < p then apG True lv c2 m a b' else none
@[go_sem] theorem apH_full (q p lv) (c2 : Prop) [Decidable c2] (m a b b') (h : q = p) : apH q p lv c2 m a b b' = apG True lv c2 m a b := if_pos h
@[go_sem] theorem apH_part (q p lv) (c2 : Prop) [Decidable c2] (m a b b') (h : q < p) : apH q p lv c2 m a b b' = apG True lv c2 m a b' := by unfold apH; rw [if_neg (by omega), if_pos h]
def apO (q p k n m : Nat) (lv : Bool) (c2 : Prop) [Decidable c2] (a b b' : CV × Hp) : Option (CV × Hp) := if m = 0 then some a else if n + m ≤ k then if q ≤ p ∧ lv = true then some b else none else if lv = true ∧ c2 then some b' else none
def apT (E : Env) (t : TypeId) (K : TypeId → TI → Option (CV × Hp)) : Option (CV × Hp) := match E.ty t with
    | some i => match i.k with
      | .slice e => match E.ty e with
        | some j => if 0 < j.sz ∧ j.zero.length = j.sz then K e j else none
        | none => none
      | _ => none
    | none => none
@[go_sem] theorem apT_eq (t K) : apT E t K = (match E.ty t with
    | some i => match i.k with
      | .slice e => match E.ty e with
        | some j => if 0 < j.sz ∧ j.zero.length = j.sz then K e j else none
        | none => none
      | _ => none
    | none => none) := rfl
def apK (x y : CV) (H : Hp) (e : TypeId) (j : TI) : Option (CV × Hp) := match elemsC j.sz H y with
            | some (m, new) => match x with
              | .v (.slice none 0 0) =>
                if m = 0 then some (x, H)
                else if m ≤ 9223372036854775807 ∧ m * j.by_ ≤ 140737488355328 ∧ new.all CV.leaf = true then some (.own H.length 0 m j.sz, H ++ [.row ⟨new, e, j.sz, true⟩])
                else none
              | .own id off n sz => match getR H id with
                | some r => if sz = j.sz ∧ r.e = e ∧ r.live = true ∧ n * sz = r.cells.length ∧ off = 0 then
                    if m = 0 then some (x, H)
                    else if n + m ≤ 9223372036854775807 ∧ (n + m) * j.by_ ≤ 140737488355328 ∧ new.all CV.leaf = true then some (.own H.length 0 (n + m) sz, H.set id .dead ++ [.row ⟨r.cells ++ new, e, sz, true⟩])
                    else none
                  else if sz = j.sz ∧ r.e = e ∧ r.live = true ∧ n * sz < r.cells.length ∧ off = 0 then
                    if m = 0 then some (x, H)
                    else if n + m ≤ 9223372036854775807 ∧ (n + m) * j.by_ ≤ 140737488355328 ∧ new.all CV.leaf = true then some (.own H.length 0 (n + m) sz, H.set id .dead ++ [.row ⟨r.cells.take (n * sz) ++ new, e, sz, true⟩])
                    else none
                  else none
                | none => none
              | .owk id off n k sz => match getR H id with
                | some r => if sz = j.sz ∧ r.e = e ∧ r.live = true ∧ n * sz ≤ r.cells.length ∧ off = 0 then
                    if m = 0 then some (x, H)
                    else if n + m ≤ k then
                      if (n + m) * sz ≤ r.cells.length ∧ new.all CV.leaf = true then some (.owk id 0 (n + m) k sz, H.set id (.row { r with cells := splice r.cells (n * sz) new }))
                      else none
                    else if n + m ≤ 9223372036854775807 ∧ (n + m) * j.by_ ≤ 140737488355328 ∧ new.all CV.leaf = true then some (.own H.length 0 (n + m) sz, H ++ [.row ⟨r.cells.take (n * sz) ++ new, e, sz, true⟩])
                    else none
                  else none
                | none => none
              | .cut id off n sz => match elemsC j.sz H x with
                | some (n', old) => if sz = j.sz ∧ n' = n ∧ old.length = n * j.sz then
                    if m = 0 then some (x, H)
                    else if n + m ≤ 9223372036854775807 ∧ (n + m) * j.by_ ≤ 140737488355328 ∧ new.all CV.leaf = true then some (.own H.length 0 (n + m) sz, H ++ [.row ⟨old ++ new, e, sz, true⟩])
                    else none
                  else none
                | none => none
              | _ => none
            | none => none
theorem ap_T (t y x) (K : TypeId → TI → Option (CV × Hp)) (h : ∀ e j, apK x y H e j = K e j) : appendC E (List.toArray [t, t]) x y H = apT E t K := by
  have e1 : appendC0 E (List.toArray [t, t]) x y H = (match E.ty t with
    | some i => match i.k with
      | .slice e => match E.ty e with
        | some j => if 0 < j.sz ∧ t = t ∧ j.zero.length = j.sz ∧ 2 = 2 then apK x y H e j else none
        | none => none
      | _ => none
    | none => none) := rfl
  have e2 : appendC E (List.toArray [t, t]) x y H = if intT E (List.toArray [t, t]) then appendZ E (List.toArray [t, t]) x y H else if strT E (List.toArray [t, t]) then appendS E (List.toArray [t, t]) x y H else appendC0 E (List.toArray [t, t]) x y H := rfl
  have e5 : strT E (List.toArray [t, t]) = true → appendS E (List.toArray [t, t]) x y H = appendC0 E (List.toArray [t, t]) x y H := by
    intro hi
    have e3 : strT E (List.toArray [t, t]) = (match E.ty t with
      | some i => (match i.k with
        | .str => true
        | _ => false)
      | none => false) := rfl
    rw [e3] at hi
    rw [e1]
    unfold appendS
    cases ht' : E.ty t with
    | none => rw [ht'] at hi; cases hi
    | some ti =>
      rw [ht'] at hi
      obtain ⟨kk, a1, a2, a3, a4⟩ := ti
      cases kk <;> first | (simp at hi; done) | skip
      split
      · rename_i t' b ht
        have : (some t : Option TypeId) = some t' := ht
        cases this
        rw [ht']
      · rfl
  have e6 : (if strT E (List.toArray [t, t]) then appendS E (List.toArray [t, t]) x y H else appendC0 E (List.toArray [t, t]) x y H) = appendC0 E (List.toArray [t, t]) x y H := by
    cases hh : strT E (List.toArray [t, t]) with
    | true => rw [if_pos rfl]; exact e5 hh
    | false => rfl
  rw [e2, e6, e1]
  have e3 : intT E (List.toArray [t, t]) = (match E.ty t with
    | some i => (match i.k with
      | .int _ => true
      | _ => false)
    | none => false) := rfl
  have e4 : intT E (List.toArray [t, t]) = true → appendZ E (List.toArray [t, t]) x y H = none := by
    intro hi
    rw [e3] at hi
    unfold appendZ
    split
    · rename_i t' k l ht
      have : t' = t := by
        have : (some t : Option TypeId) = some t' := ht
        cases this; rfl
      subst this
      cases ht' : E.ty t' with
      | none => rfl
      | some ti =>
        rw [ht'] at hi
        obtain ⟨kk, a1, a2, a3, a4⟩ := ti
        cases kk <;> first | rfl | (simp at hi)
    · rfl
  unfold apT
  cases hh : intT E (List.toArray [t, t]) with
  | true =>
    rw [if_pos rfl, e4 hh]
    rw [e3] at hh
    cases ht : E.ty t with
    | none => rfl
    | some ti =>
      rw [ht] at hh
      obtain ⟨kk, a1, a2, a3, a4⟩ := ti
      cases kk <;> first | rfl | (simp at hh)
  | false =>
    rw [if_neg (by simp)]
    cases E.ty t with
    | none => rfl
    | some ti =>
      obtain ⟨kk, a1, a2, a3, a4⟩ := ti
      cases kk <;> try rfl
      rename_i e
      simp only
      cases E.ty e with
      | none => rfl
      | some j => simp only [true_and, and_true, h e j]
@[go_sem] theorem ap_own (t id n sz y) : appendC E (List.toArray [t, t]) (.own id 0 n sz) y H = apT E t fun e j => match elemsC j.sz H y, getR H id with
    | some (m, new), some r => if sz = j.sz ∧ r.e = e ∧ r.live = true then apH (n * sz) r.cells.length (new.all CV.leaf) (n + m ≤ 9223372036854775807 ∧ (n + m) * j.by_ ≤ 140737488355328) m (.own id 0 n sz, H) (.own H.length 0 (n + m) sz, H.set id .dead ++ [.row ⟨r.cells ++ new, e, sz, true⟩]) (.own H.length 0 (n + m) sz, H.set id .dead ++ [.row ⟨r.cells.take (n * sz) ++ new, e, sz, true⟩]) else none
    | _, _ => none := by
  refine ap_T t y _ _ fun e j => ?_
  unfold apK
  cases elemsC j.sz H y with
  | none => rfl
  | some q =>
    obtain ⟨m, new⟩ := q
    simp only
    cases getR H id with
    | none => rfl
    | some r =>
      simp only [apH, apG, and_true]
      by_cases hc : sz = j.sz ∧ r.e = e ∧ r.live = true
      · obtain ⟨c1, c2, c3⟩ := hc
        simp only [c1, c2, c3, true_and, and_self, if_true]
        by_cases hn : n * j.sz = r.cells.length
        · simp only [hn, if_true]
          by_cases hm : m = 0
          · simp only [hm, if_true]
          · simp only [hm, if_false]
            by_cases hv : new.all CV.leaf = true <;> simp [hv]
        · simp only [hn, if_false]
          by_cases hn2 : n * j.sz < r.cells.length
          · simp only [hn2, if_true]
            by_cases hm : m = 0
            · simp only [hm, if_true]
            · simp only [hm, if_false]
              by_cases hv : new.all CV.leaf = true <;> simp [hv]
          · simp only [hn2, if_false]
      · rw [if_neg hc, if_neg, if_neg]
        · rintro ⟨c1, c2, c3, _⟩; exact hc ⟨c1, c2, c3⟩
        · rintro ⟨c1, c2, c3, _⟩; exact hc ⟨c1, c2, c3⟩
@[go_sem] theorem ap_nil (t y) : appendC E (List.toArray [t, t]) (.v (.slice none 0 0)) y H = apT E t fun e j => match elemsC j.sz H y with
    | some (m, new) => apG True (new.all CV.leaf) (m ≤ 9223372036854775807 ∧ m * j.by_ ≤ 140737488355328) m (.v (.slice none 0 0), H) (.own H.length 0 m j.sz, H ++ [.row ⟨new, e, j.sz, true⟩])
    | none => none := by
  refine ap_T t y _ _ fun e j => ?_
  unfold apK
  cases elemsC j.sz H y with
  | none => rfl
  | some q =>
    obtain ⟨m, new⟩ := q
    simp only [apG, if_true]
    by_cases hm : m = 0
    · simp only [hm, if_true]
    · simp only [hm, if_false]
      by_cases hv : new.all CV.leaf = true <;> simp [hv]
end
attribute [local irreducible] kD
attribute [irreducible] IsS IsV IsC IsX kSeq kBlk kLoop kRes WF RD KD WQ2 WX2
end Go.Den
end
section
set_option linter.all false
set_option linter.unusedVariables false
set_option maxRecDepth 20000
namespace Go.Dig
open Go.Den Go.Proofs Go.Age
def keepT : List (Nat × Nat × List Nat) := [
  (11, 4, [0, 3, 4]),
  (11, 11, [6, 37, 38]),
  (36, 3, [1, 2, 3, 4, 8, 9, 19, 20]),
  (36, 9, [2, 3, 4, 8, 9, 11, 38]),
  (36, 18, [4, 8, 9, 11, 71, 72]),
  (36, 21, [4, 8, 9, 11, 14, 71, 72, 75, 76]),
  (36, 27, [4, 8, 11, 98]),
  (12, 4, [0, 3, 4]),
  (12, 10, [3, 5, 6]),
  (12, 13, [3, 5, 6, 7]),
  (38, 3, [1, 2, 3, 4, 8, 9, 10, 11]),
  (38, 8, [2, 3, 4, 8, 9, 10, 12, 13]),
  (38, 16, [4, 8, 9, 10, 14]),
  (38, 20, [4, 8, 9, 10, 14, 15, 16]),
  (38, 24, [4, 8, 9, 10, 14, 15, 17]),
  (38, 28, [4, 8, 10, 18])
]

abbrev i64 (n : Int) : CV := .v (.int .i64 n)
abbrev u32 (n : Nat) : CV := .v (.int .u32 (n : Int))
abbrev u8 (n : Nat) : CV := .v (.int .u8 (n : Int))
def w32 (l : List Nat) : List CV := l.map u32
def w8 (l : List Nat) : List CV := l.map u8
noncomputable def E : Env where
  ty := tyOf Tryz.prog
  code := fun f => Tryz.prog.funcs[f]?
  prim := fun _ => none
  primR := fun _ => false
  inl := fun f => f == yId
  frz := fun _ => false
  frr := fun _ => false
  rgf := fun _ => false
  keep := fun f r => (keepT.find? fun x => x.1 == f && x.2.1 == r).map (·.2.2)
  glob := fun g => if g = 0 then some (w32 firstN) else if g = 1 then some (w8 orderN) else if g = 2 then some (w8 quarterN) else none
@[go_sem] theorem keep_11_4 : E.keep 11 4 = some [0, 3, 4] := rfl
@[go_sem] theorem keep_11_11 : E.keep 11 11 = some [6, 37, 38] := rfl
@[go_sem] theorem keep_36_3 : E.keep 36 3 = some [1, 2, 3, 4, 8, 9, 19, 20] := rfl
@[go_sem] theorem keep_36_9 : E.keep 36 9 = some [2, 3, 4, 8, 9, 11, 38] := rfl
@[go_sem] theorem keep_36_18 : E.keep 36 18 = some [4, 8, 9, 11, 71, 72] := rfl
@[go_sem] theorem keep_36_21 : E.keep 36 21 = some [4, 8, 9, 11, 14, 71, 72, 75, 76] := rfl
@[go_sem] theorem keep_36_27 : E.keep 36 27 = some [4, 8, 11, 98] := rfl
@[go_sem] theorem keep_12_4 : E.keep 12 4 = some [0, 3, 4] := rfl
@[go_sem] theorem keep_12_10 : E.keep 12 10 = some [3, 5, 6] := rfl
@[go_sem] theorem keep_12_13 : E.keep 12 13 = some [3, 5, 6, 7] := rfl
@[go_sem] theorem keep_38_3 : E.keep 38 3 = some [1, 2, 3, 4, 8, 9, 10, 11] := rfl
@[go_sem] theorem keep_38_8 : E.keep 38 8 = some [2, 3, 4, 8, 9, 10, 12, 13] := rfl
@[go_sem] theorem keep_38_16 : E.keep 38 16 = some [4, 8, 9, 10, 14] := rfl
@[go_sem] theorem keep_38_20 : E.keep 38 20 = some [4, 8, 9, 10, 14, 15, 16] := rfl
@[go_sem] theorem keep_38_24 : E.keep 38 24 = some [4, 8, 9, 10, 14, 15, 17] := rfl
@[go_sem] theorem keep_38_28 : E.keep 38 28 = some [4, 8, 10, 18] := rfl
@[go_sem] theorem ty_3 : E.ty 3 = some ⟨(.int .i64), 1, 8, [.v (.int .i64 0)], .v (.int .i64 0)⟩ := by kernel_rfl
@[go_sem] theorem ty_4 : E.ty 4 = some ⟨.bool, 1, 1, [.v (.bool false)], .v (.bool false)⟩ := by kernel_rfl
@[go_sem] theorem ty_5 : E.ty 5 = some ⟨(.int .u8), 1, 1, [.v (.int .u8 0)], .v (.int .u8 0)⟩ := by kernel_rfl
@[go_sem] theorem ty_9 : E.ty 9 = some ⟨.str, 1, 16, [.v (.string ⟨#[]⟩)], .v (.string ⟨#[]⟩)⟩ := by kernel_rfl
@[go_sem] theorem ty_65 : E.ty 65 = some ⟨(.int .u32), 1, 4, [.v (.int .u32 0)], .v (.int .u32 0)⟩ := by kernel_rfl
@[go_sem] theorem ty_66 : E.ty 66 = some ⟨(.array 8 65), 8, 32, [.v (.int .u32 0), .v (.int .u32 0), .v (.int .u32 0), .v (.int .u32 0), .v (.int .u32 0), .v (.int .u32 0), .v (.int .u32 0), .v (.int .u32 0)], .agg [.v (.int .u32 0), .v (.int .u32 0), .v (.int .u32 0), .v (.int .u32 0), .v (.int .u32 0), .v (.int .u32 0), .v (.int .u32 0), .v (.int .u32 0)]⟩ := by kernel_rfl
@[go_sem] theorem ty_67 : E.ty 67 = some ⟨(.int .u64), 1, 8, [.v (.int .u64 0)], .v (.int .u64 0)⟩ := by kernel_rfl
@[go_sem] theorem ty_69 : E.ty 69 = some ⟨(.slice 5), 1, 24, [.v (.slice none 0 0)], .v (.slice none 0 0)⟩ := by kernel_rfl
@[go_sem] theorem ty_70 : E.ty 70 = some ⟨(.int .u64), 1, 8, [.v (.int .u64 0)], .v (.int .u64 0)⟩ := by kernel_rfl
@[go_sem] theorem ty_88 : E.ty 88 = some ⟨(.array 16 65), 16, 64, [.v (.int .u32 0), .v (.int .u32 0), .v (.int .u32 0), .v (.int .u32 0), .v (.int .u32 0), .v (.int .u32 0), .v (.int .u32 0), .v (.int .u32 0), .v (.int .u32 0), .v (.int .u32 0), .v (.int .u32 0), .v (.int .u32 0), .v (.int .u32 0), .v (.int .u32 0), .v (.int .u32 0), .v (.int .u32 0)], .agg [.v (.int .u32 0), .v (.int .u32 0), .v (.int .u32 0), .v (.int .u32 0), .v (.int .u32 0), .v (.int .u32 0), .v (.int .u32 0), .v (.int .u32 0), .v (.int .u32 0), .v (.int .u32 0), .v (.int .u32 0), .v (.int .u32 0), .v (.int .u32 0), .v (.int .u32 0), .v (.int .u32 0), .v (.int .u32 0)]⟩ := by kernel_rfl
@[go_sem] theorem ty_89 : E.ty 89 = some ⟨(.array 16 5), 16, 16, [.v (.int .u8 0), .v (.int .u8 0), .v (.int .u8 0), .v (.int .u8 0), .v (.int .u8 0), .v (.int .u8 0), .v (.int .u8 0), .v (.int .u8 0), .v (.int .u8 0), .v (.int .u8 0), .v (.int .u8 0), .v (.int .u8 0), .v (.int .u8 0), .v (.int .u8 0), .v (.int .u8 0), .v (.int .u8 0)], .agg [.v (.int .u8 0), .v (.int .u8 0), .v (.int .u8 0), .v (.int .u8 0), .v (.int .u8 0), .v (.int .u8 0), .v (.int .u8 0), .v (.int .u8 0), .v (.int .u8 0), .v (.int .u8 0), .v (.int .u8 0), .v (.int .u8 0), .v (.int .u8 0), .v (.int .u8 0), .v (.int .u8 0), .v (.int .u8 0)]⟩ := by kernel_rfl
@[go_sem] theorem ty_90 : E.ty 90 = some ⟨(.array 10 89), 160, 160, [.v (.int .u8 0), .v (.int .u8 0), .v (.int .u8 0), .v (.int .u8 0), .v (.int .u8 0), .v (.int .u8 0), .v (.int .u8 0), .v (.int .u8 0), .v (.int .u8 0), .v (.int .u8 0), .v (.int .u8 0), .v (.int .u8 0), .v (.int .u8 0), .v (.int .u8 0), .v (.int .u8 0), .v (.int .u8 0), .v (.int .u8 0), .v (.int .u8 0), .v (.int .u8 0), .v (.int .u8 0), .v (.int .u8 0), .v (.int .u8 0), .v (.int .u8 0), .v (.int .u8 0), .v (.int .u8 0), .v (.int .u8 0), .v (.int .u8 0), .v (.int .u8 0), .v (.int .u8 0), .v (.int .u8 0), .v (.int .u8 0), .v (.int .u8 0), .v (.int .u8 0), .v (.int .u8 0), .v (.int .u8 0), .v (.int .u8 0), .v (.int .u8 0), .v (.int .u8 0), .v (.int .u8 0), .v (.int .u8 0), .v (.int .u8 0), .v (.int .u8 0), .v (.int .u8 0), .v (.int .u8 0), .v (.int .u8 0), .v (.int .u8 0), .v (.int .u8 0), .v (.int .u8 0), .v (.int .u8 0), .v (.int .u8 0), .v (.int .u8 0), .v (.int .u8 0), .v (.int .u8 0), .v (.int .u8 0), .v (.int .u8 0), .v (.int .u8 0), .v (.int .u8 0), .v (.int .u8 0), .v (.int .u8 0), .v (.int .u8 0), .v (.int .u8 0), .v (.int .u8 0), .v (.int .u8 0), .v (.int .u8 0), .v (.int .u8 0), .v (.int .u8 0), .v (.int .u8 0), .v (.int .u8 0), .v (.int .u8 0), .v (.int .u8 0), .v (.int .u8 0), .v (.int .u8 0), .v (.int .u8 0), .v (.int .u8 0), .v (.int .u8 0), .v (.int .u8 0), .v (.int .u8 0), .v (.int .u8 0), .v (.int .u8 0), .v (.int .u8 0), .v (.int .u8 0), .v (.int .u8 0), .v (.int .u8 0), .v (.int .u8 0), .v (.int .u8 0), .v (.int .u8 0), .v (.int .u8 0), .v (.int .u8 0), .v (.int .u8 0), .v (.int .u8 0), .v (.int .u8 0), .v (.int .u8 0), .v (.int .u8 0), .v (.int .u8 0), .v (.int .u8 0), .v (.int .u8 0), .v (.int .u8 0), .v (.int .u8 0), .v (.int .u8 0), .v (.int .u8 0), .v (.int .u8 0), .v (.int .u8 0), .v (.int .u8 0), .v (.int .u8 0), .v (.int .u8 0), .v (.int .u8 0), .v (.int .u8 0), .v (.int .u8 0), .v (.int .u8 0), .v (.int .u8 0), .v (.int .u8 0), .v (.int .u8 0), .v (.int .u8 0), .v (.int .u8 0), .v (.int .u8 0), .v (.int .u8 0), .v (.int .u8 0), .v (.int .u8 0), .v (.int .u8 0), .v (.int .u8 0), .v (.int .u8 0), .v (.int .u8 0), .v (.int .u8 0), .v (.int .u8 0), .v (.int .u8 0), .v (.int .u8 0), .v (.int .u8 0), .v (.int .u8 0), .v (.int .u8 0), .v (.int .u8 0), .v (.int .u8 0), .v (.int .u8 0), .v (.int .u8 0), .v (.int .u8 0), .v (.int .u8 0), .v (.int .u8 0), .v (.int .u8 0), .v (.int .u8 0), .v (.int .u8 0), .v (.int .u8 0), .v (.int .u8 0), .v (.int .u8 0), .v (.int .u8 0), .v (.int .u8 0), .v (.int .u8 0), .v (.int .u8 0), .v (.int .u8 0), .v (.int .u8 0), .v (.int .u8 0), .v (.int .u8 0), .v (.int .u8 0), .v (.int .u8 0), .v (.int .u8 0), .v (.int .u8 0), .v (.int .u8 0), .v (.int .u8 0), .v (.int .u8 0), .v (.int .u8 0), .v (.int .u8 0), .v (.int .u8 0)], .agg [.v (.int .u8 0), .v (.int .u8 0), .v (.int .u8 0), .v (.int .u8 0), .v (.int .u8 0), .v (.int .u8 0), .v (.int .u8 0), .v (.int .u8 0), .v (.int .u8 0), .v (.int .u8 0), .v (.int .u8 0), .v (.int .u8 0), .v (.int .u8 0), .v (.int .u8 0), .v (.int .u8 0), .v (.int .u8 0), .v (.int .u8 0), .v (.int .u8 0), .v (.int .u8 0), .v (.int .u8 0), .v (.int .u8 0), .v (.int .u8 0), .v (.int .u8 0), .v (.int .u8 0), .v (.int .u8 0), .v (.int .u8 0), .v (.int .u8 0), .v (.int .u8 0), .v (.int .u8 0), .v (.int .u8 0), .v (.int .u8 0), .v (.int .u8 0), .v (.int .u8 0), .v (.int .u8 0), .v (.int .u8 0), .v (.int .u8 0), .v (.int .u8 0), .v (.int .u8 0), .v (.int .u8 0), .v (.int .u8 0), .v (.int .u8 0), .v (.int .u8 0), .v (.int .u8 0), .v (.int .u8 0), .v (.int .u8 0), .v (.int .u8 0), .v (.int .u8 0), .v (.int .u8 0), .v (.int .u8 0), .v (.int .u8 0), .v (.int .u8 0), .v (.int .u8 0), .v (.int .u8 0), .v (.int .u8 0), .v (.int .u8 0), .v (.int .u8 0), .v (.int .u8 0), .v (.int .u8 0), .v (.int .u8 0), .v (.int .u8 0), .v (.int .u8 0), .v (.int .u8 0), .v (.int .u8 0), .v (.int .u8 0), .v (.int .u8 0), .v (.int .u8 0), .v (.int .u8 0), .v (.int .u8 0), .v (.int .u8 0), .v (.int .u8 0), .v (.int .u8 0), .v (.int .u8 0), .v (.int .u8 0), .v (.int .u8 0), .v (.int .u8 0), .v (.int .u8 0), .v (.int .u8 0), .v (.int .u8 0), .v (.int .u8 0), .v (.int .u8 0), .v (.int .u8 0), .v (.int .u8 0), .v (.int .u8 0), .v (.int .u8 0), .v (.int .u8 0), .v (.int .u8 0), .v (.int .u8 0), .v (.int .u8 0), .v (.int .u8 0), .v (.int .u8 0), .v (.int .u8 0), .v (.int .u8 0), .v (.int .u8 0), .v (.int .u8 0), .v (.int .u8 0), .v (.int .u8 0), .v (.int .u8 0), .v (.int .u8 0), .v (.int .u8 0), .v (.int .u8 0), .v (.int .u8 0), .v (.int .u8 0), .v (.int .u8 0), .v (.int .u8 0), .v (.int .u8 0), .v (.int .u8 0), .v (.int .u8 0), .v (.int .u8 0), .v (.int .u8 0), .v (.int .u8 0), .v (.int .u8 0), .v (.int .u8 0), .v (.int .u8 0), .v (.int .u8 0), .v (.int .u8 0), .v (.int .u8 0), .v (.int .u8 0), .v (.int .u8 0), .v (.int .u8 0), .v (.int .u8 0), .v (.int .u8 0), .v (.int .u8 0), .v (.int .u8 0), .v (.int .u8 0), .v (.int .u8 0), .v (.int .u8 0), .v (.int .u8 0), .v (.int .u8 0), .v (.int .u8 0), .v (.int .u8 0), .v (.int .u8 0), .v (.int .u8 0), .v (.int .u8 0), .v (.int .u8 0), .v (.int .u8 0), .v (.int .u8 0), .v (.int .u8 0), .v (.int .u8 0), .v (.int .u8 0), .v (.int .u8 0), .v (.int .u8 0), .v (.int .u8 0), .v (.int .u8 0), .v (.int .u8 0), .v (.int .u8 0), .v (.int .u8 0), .v (.int .u8 0), .v (.int .u8 0), .v (.int .u8 0), .v (.int .u8 0), .v (.int .u8 0), .v (.int .u8 0), .v (.int .u8 0), .v (.int .u8 0), .v (.int .u8 0), .v (.int .u8 0), .v (.int .u8 0), .v (.int .u8 0), .v (.int .u8 0), .v (.int .u8 0)]⟩ := by kernel_rfl
@[go_sem] theorem ty_91 : E.ty 91 = some ⟨(.array 4 5), 4, 4, [.v (.int .u8 0), .v (.int .u8 0), .v (.int .u8 0), .v (.int .u8 0)], .agg [.v (.int .u8 0), .v (.int .u8 0), .v (.int .u8 0), .v (.int .u8 0)]⟩ := by kernel_rfl
@[go_sem] theorem ty_92 : E.ty 92 = some ⟨(.array 8 91), 32, 32, [.v (.int .u8 0), .v (.int .u8 0), .v (.int .u8 0), .v (.int .u8 0), .v (.int .u8 0), .v (.int .u8 0), .v (.int .u8 0), .v (.int .u8 0), .v (.int .u8 0), .v (.int .u8 0), .v (.int .u8 0), .v (.int .u8 0), .v (.int .u8 0), .v (.int .u8 0), .v (.int .u8 0), .v (.int .u8 0), .v (.int .u8 0), .v (.int .u8 0), .v (.int .u8 0), .v (.int .u8 0), .v (.int .u8 0), .v (.int .u8 0), .v (.int .u8 0), .v (.int .u8 0), .v (.int .u8 0), .v (.int .u8 0), .v (.int .u8 0), .v (.int .u8 0), .v (.int .u8 0), .v (.int .u8 0), .v (.int .u8 0), .v (.int .u8 0)], .agg [.v (.int .u8 0), .v (.int .u8 0), .v (.int .u8 0), .v (.int .u8 0), .v (.int .u8 0), .v (.int .u8 0), .v (.int .u8 0), .v (.int .u8 0), .v (.int .u8 0), .v (.int .u8 0), .v (.int .u8 0), .v (.int .u8 0), .v (.int .u8 0), .v (.int .u8 0), .v (.int .u8 0), .v (.int .u8 0), .v (.int .u8 0), .v (.int .u8 0), .v (.int .u8 0), .v (.int .u8 0), .v (.int .u8 0), .v (.int .u8 0), .v (.int .u8 0), .v (.int .u8 0), .v (.int .u8 0), .v (.int .u8 0), .v (.int .u8 0), .v (.int .u8 0), .v (.int .u8 0), .v (.int .u8 0), .v (.int .u8 0), .v (.int .u8 0)]⟩ := by kernel_rfl
@[go_sem] theorem ty_94 : E.ty 94 = some ⟨(.array 16 3), 16, 128, [.v (.int .i64 0), .v (.int .i64 0), .v (.int .i64 0), .v (.int .i64 0), .v (.int .i64 0), .v (.int .i64 0), .v (.int .i64 0), .v (.int .i64 0), .v (.int .i64 0), .v (.int .i64 0), .v (.int .i64 0), .v (.int .i64 0), .v (.int .i64 0), .v (.int .i64 0), .v (.int .i64 0), .v (.int .i64 0)], .agg [.v (.int .i64 0), .v (.int .i64 0), .v (.int .i64 0), .v (.int .i64 0), .v (.int .i64 0), .v (.int .i64 0), .v (.int .i64 0), .v (.int .i64 0), .v (.int .i64 0), .v (.int .i64 0), .v (.int .i64 0), .v (.int .i64 0), .v (.int .i64 0), .v (.int .i64 0), .v (.int .i64 0), .v (.int .i64 0)]⟩ := by kernel_rfl

end Go.Dig
end
